/- symMergeCmpFunc of the library at int, over the comparison of Rank: one against many. -/
import Derived.Test.YtghniddefhdmmaaSyp
import Derived.PlainAid
namespace Go.Proofs.Ytghniddefhdmmaa
open Go.RowKit Flo

abbrev cmpG (hp : Nat) : Value := .func (.func 21) #[] #[.pointer (some ⟨hp, 0, none⟩)]

/-- What the merge does. -/
def SymIs (w : World) (base g n cap : Nat) (hs : List (Int × Int)) (d : List Int) (a b : Nat) (e : Ending) (w' : World) : Prop := e = .returned (.tuple #[]) ∧ ∃ d', RowI w base g n cap d a b d' w' ∧ KS (lex hs) d' a b

/-- The search of one's place: behind a. -/
def Up1 (w : World) (base g n cap : Nat) (K : Int → Int) (d : List Int) (a m b : Nat) (v10 v11 : Value) (wr : World) : Prop := ∃ i j : Nat, v10 = .int .i64 i ∧ v11 = .int .i64 j ∧ m ≤ i ∧ i ≤ j ∧ j ≤ b ∧ RowI w base g n cap d a b d wr ∧ (∀ q, m ≤ q → q < i → K (ele d q) < K (ele d a)) ∧ ∀ q, j ≤ q → q < b → K (ele d a) ≤ K (ele d q)

/-- The way of one up to its place. -/
def Up2 (w : World) (base g n cap : Nat) (d : List Int) (a b i : Nat) (v : Value) (wr : World) : Prop := ∃ (k : Nat) (d' : List Int), v = .int .i64 k ∧ a ≤ k ∧ k + 1 ≤ i ∧ RowI w base g n cap d a b d' wr ∧ Rot d a (a + 1) (k + 1) d'

theorem pos_of {d : List Int} {n : Nat} (hl : d.length = n) (hix : ∀ x ∈ d, 0 ≤ x ∧ x < n) : ∀ k, k < n → ∃ x : Nat, ele d k = x ∧ x < n := fun k hk => by
  obtain ⟨h1, h2⟩ := hix _ (ele_in (d := d) (k := k) (by omega))
  exact ⟨(ele d k).toNat, by omega, by omega⟩

set_option maxRecDepth 100000 in
set_option maxHeartbeats 8000000 in
theorem sym_up (base g off n cap a b hp hr : Nat) (hs : List (Int × Int)) (hoff : off = 0) (d : List Int) (w : World) (h : RowX w base g n cap d) (hm : HMem w hp hr n hs) (hne : g ≠ hp ∧ g ≠ hr) (hix : ∀ x ∈ d, 0 ≤ x ∧ x < n)
    (hsm : Sm (lex hs) d a (a + 1) b) (hb1 : a + 1 < b) (hb : b ≤ n) (hn : n ≤ 1000) :
    Calls Try.prog 31 #[.slice (some ⟨g, off, none⟩) n cap, .int .i64 a, .int .i64 (a + 1 : Nat), .int .i64 b, cmpG hp] w (SymIs w base g n cap hs d a b) := by
  have HO := Lib.hid hoff
  have HM0 := Lib.hid (show ∀ dj wr, RowI w base g n cap d a b dj wr → HMem wr hp hr n hs from fun dj wr hr => hm.grown hr.grown hne.1 hne.2)
  have HIX := Lib.hid (pos_of (by have := h.1; simpa using this) hix)
  have HSM := Lib.hid hsm
  have HW := Lib.hid h
  have b1 : ((a + 1 : Nat) : Int) - (a : Int) = 1 := by omega
  clear hoff hm hix hsm h
  obtain ⟨m, hmm⟩ : ∃ m, m = a + 1 := ⟨_, rfl⟩
  rw [← hmm] at b1 ⊢
  have HMM := Lib.hid hmm
  clear hmm
  go_enter Try.func31, Try.ntmps31
  go_wp2_with fail
  go_loopw [10, 11] (Up1 w base g n cap (lex hs) d a m b) (fun u v _ => cnt v - cnt u)
  case atStart => exact ⟨m, b, rfl, rfl, Nat.le_refl _, by have := HMM.out; omega, Nat.le_refl _, RowI.start HW.out _ _, fun q h1 h2 => by omega, fun q h1 h2 => by omega⟩
  case round =>
    obtain ⟨i, j, rfl, rfl, hmi, hij, hjb, hrow, hlow, hhigh⟩ := hrel
    have HR := Lib.hid hrow
    have HLOW := Lib.hid hlow
    have HHIGH := Lib.hid hhigh
    have ham : a < m := by have := HMM.out; omega
    have hma : m ≤ a + 1 := by have := HMM.out; omega
    clear hrow hlow hhigh
    by_cases hlt : i < j
    · have b2 : decide ((i : Int) < (j : Int)) = true := by simp; omega
      obtain ⟨c, hc1, hc2, ec⟩ : ∃ c : Nat, i ≤ c ∧ c < j ∧ ((i : Int) + (j : Int)) / 2 = (c : Int) := ⟨(i + j) / 2, by omega, by omega, by omega⟩
      obtain ⟨x, hx, hxn⟩ := HIX.out c (by omega)
      obtain ⟨y, hy, hyn⟩ := HIX.out a (by omega)
      have c1 : wr.cell? ⟨g, off + c, none⟩ = some (.int .i64 (x : Int)) := by rw [← hx, HO.out, Nat.zero_add]; exact HR.out.cell c (by omega)
      have c2 : wr.cell? ⟨g, off + a, none⟩ = some (.int .i64 (y : Int)) := by rw [← hy, HO.out, Nat.zero_add]; exact HR.out.cell a (by omega)
      have hxy : y < x := by
        have := HSM.out.cross a c (by omega) (by omega) (by omega) (by omega)
        rw [hx, hy] at this
        omega
      have HMJ := Lib.hid ((HM0.out d wr HR.out).drew)
      have HIFF := Lib.hid (lex_lt (HMJ.out.rg hxn) (HMJ.out.rg hyn) hxy (by omega))
      have HCC := Lib.hid (show wr.drew.cell? ⟨g, off + c, none⟩ = some (.int .i64 (x : Int)) ∧ wr.drew.cell? ⟨g, off + a, none⟩ = some (.int .i64 (y : Int)) from ⟨c1, c2⟩)
      have HKP := Lib.hid (show ∀ w1, Below wr.drew.heap.size wr.drew w1 → w1.cell? ⟨g, off + c, none⟩ = some (.int .i64 (x : Int)) ∧ w1.cell? ⟨g, off + a, none⟩ = some (.int .i64 (y : Int)) from fun w1 hb1 => by
        have hr1 := HR.out.drew.below hb1
        constructor
        · rw [← hx, HO.out, Nat.zero_add]; exact hr1.cell c (by omega)
        · rw [← hy, HO.out, Nat.zero_add]; exact hr1.cell a (by omega))
      have HX := Lib.hid hx
      have HY := Lib.hid hy
      have hln1 : c < n := by omega
      have hln2 : a < n := by omega
      clear c1 c2 hx hy hxy
      go_wp2_with fail
      refine wp_region_held_drew (S := (fun w' => w'.cell? ⟨g, off + c, none⟩ = some (.int .i64 (x : Int)) ∧ w'.cell? ⟨g, off + a, none⟩ = some (.int .i64 (y : Int)))) (by kernel_rfl) ?_ (fun hHeld => ?_)
      · exact HCC.out
      ((refine takeY 0 (v := ?_) rfl (by kernel_rfl) (by kernel_rfl) (by kernel_rfl) (fun _ _ _ h => h) (by rfl) (by assumption) ?_ ?_; rotate_left; · (intro w hSw; (try dsimp only at hSw); go_simp; (first | done | with_reducible rfl))))
      (try simp only [Act.put, List.setIfInBounds_toArray, List.set_cons_zero, List.set_cons_succ])
      ((refine takeY 1 (v := ?_) rfl (by kernel_rfl) (by kernel_rfl) (by kernel_rfl) (fun _ _ _ h => h) (by rfl) (by assumption) ?_ ?_; rotate_left; · (intro w hSw; (try dsimp only at hSw); go_simp; (first | done | with_reducible rfl))))
      (try simp only [Act.put, List.setIfInBounds_toArray, List.set_cons_zero, List.set_cons_succ])
      ((refine takeY 2 (v := ?_) rfl (by kernel_rfl) (by kernel_rfl) (by kernel_rfl) (fun _ _ _ h => h) (by rfl) (by assumption) ?_ ?_; rotate_left; · (intro w hSw; (try dsimp only at hSw); go_simp; (first | done | with_reducible rfl))))
      (try simp only [Act.put, List.setIfInBounds_toArray, List.set_cons_zero, List.set_cons_succ])
      ((refine takeY 3 (v := ?_) rfl (by kernel_rfl) (by kernel_rfl) (by kernel_rfl) (fun _ _ _ h => h) (by rfl) (by assumption) ?_ ?_; rotate_left; · (intro w hSw; (try dsimp only at hSw); go_simp; (first | done | with_reducible rfl))))
      (try simp only [Act.put, List.setIfInBounds_toArray, List.set_cons_zero, List.set_cons_succ])
      ((refine takeY 4 (v := ?_) rfl (by kernel_rfl) (by kernel_rfl) (by kernel_rfl) (fun _ _ _ h => h) (by rfl) (by assumption) ?_ ?_; rotate_left; · (intro w hSw; (try dsimp only at hSw); go_simp; (first | done | with_reducible rfl))))
      (try simp only [Act.put, List.setIfInBounds_toArray, List.set_cons_zero, List.set_cons_succ])
      ((refine takeY 5 (v := ?_) rfl (by kernel_rfl) (by kernel_rfl) (by kernel_rfl) (fun _ _ _ h => h) (by rfl) (by assumption) ?_ ?_; rotate_left; · (intro w hSw; (try dsimp only at hSw); go_simp; (first | done | with_reducible rfl))))
      (try simp only [Act.put, List.setIfInBounds_toArray, List.set_cons_zero, List.set_cons_succ])
      ((refine takeY 6 (v := ?_) rfl (by kernel_rfl) (by kernel_rfl) (by kernel_rfl) (fun _ _ _ h => h) (by rfl) (by assumption) ?_ ?_; rotate_left; · (intro w hSw; (try dsimp only at hSw); go_simp; (first | done | with_reducible rfl))))
      (try simp only [Act.put, List.setIfInBounds_toArray, List.set_cons_zero, List.set_cons_succ])
      ((refine takeY 7 (v := ?_) rfl (by kernel_rfl) (by kernel_rfl) (by kernel_rfl) (fun _ _ _ h => h) (by rfl) (by assumption) ?_ ?_; rotate_left; · (intro w hSw; (try dsimp only at hSw); go_simp; (first | done | with_reducible rfl))))
      (try simp only [Act.put, List.setIfInBounds_toArray, List.set_cons_zero, List.set_cons_succ])
      ((refine takeY 8 (v := ?_) rfl (by kernel_rfl) (by kernel_rfl) (by kernel_rfl) (fun _ _ _ h => h) (by rfl) (by assumption) ?_ ?_; rotate_left; · (intro w hSw; (try dsimp only at hSw); go_simp; (first | done | with_reducible rfl))))
      (try simp only [Act.put, List.setIfInBounds_toArray, List.set_cons_zero, List.set_cons_succ])
      try (((refine takeY 10 (v := ?_) rfl (by kernel_rfl) (by decide +kernel) (by decide +kernel) (fun _ _ _ h => h) (by rfl) (by assumption) ?_ ?_; rotate_left; · (intro w hSw; (try dsimp only at hSw); go_simp; (first | done | with_reducible rfl)))); (try simp only [Act.put, List.setIfInBounds_toArray, List.set_cons_zero, List.set_cons_succ]))
      first
        | (refine takeN 9 rfl (by kernel_rfl) (by kernel_rfl) (by kernel_rfl) (fun _ _ _ h => h) (by rfl) (by assumption) ?_)
        | (refine stepH 9 rfl (by kernel_rfl) (by rfl) (fun K hK => ?_)
           go_simp
           ((with_reducible refine (cmp_any hp hr n hs x y _ HMJ.out hxn hyn).mono ?_); rintro e w1 ⟨rfl, hb1⟩; have HB1 := Lib.hid hb1; clear hb1)
           (refine hK.out _ _ ?_ (fun hHeld => ?_))
           · exact HKP.out _ HB1.out
           clear hK K)
      try (((refine takeY 10 (v := ?_) rfl (by kernel_rfl) (by decide +kernel) (by decide +kernel) (fun _ _ _ h => h) (by rfl) (by assumption) ?_ ?_; rotate_left; · (intro w hSw; (try dsimp only at hSw); go_simp; (first | done | with_reducible rfl)))); (try simp only [Act.put, List.setIfInBounds_toArray, List.set_cons_zero, List.set_cons_succ]))
      refine wpAnyH_done (by kernel_rfl) ?_ _
      have HR1 := Lib.hid (HR.out.drew.below HB1.out)
      clear hHeld HCC HKP
      by_cases hcc : cvH (hAt hs x) (hAt hs y) < 0
      · have hcv : decide (cvH (hAt hs x) (hAt hs y) < 0) = true := by simpa using hcc
        have HLT := Lib.hid (show lex hs (ele d c) < lex hs (ele d a) from by rw [HX.out, HY.out]; exact HIFF.out.1 hcc)
        rw [hcv]
        clear hcc hcv
        go_wp2
        go_roundw
        case rel =>
          refine ⟨c + 1, j, by go_num, rfl, by omega, by omega, hjb, HR1.out, fun q q1 q2 => ?_, HHIGH.out⟩
          have k1 := HSM.out.hi.le (p := q) (q := c) (by omega) (by omega) (by omega)
          have k2 := HLT.out
          omega
        case measure => simp [cnt]; omega
      · have hcv : decide (cvH (hAt hs x) (hAt hs y) < 0) = false := by simpa using hcc
        have HLT := Lib.hid (show lex hs (ele d a) ≤ lex hs (ele d c) from by rw [HX.out, HY.out]; have := mt HIFF.out.2 hcc; omega)
        rw [hcv]
        clear hcc hcv
        go_wp2
        go_roundw
        case rel =>
          refine ⟨i, c, rfl, rfl, hmi, hc1, by omega, HR1.out, HLOW.out, fun q q1 q2 => ?_⟩
          have k1 := HSM.out.hi.le (p := c) (q := q) (by omega) (by omega) (by omega)
          have k2 := HLT.out
          omega
        case measure => simp [cnt]; omega
    · have b2 : decide ((i : Int) < (j : Int)) = false := by simp; omega
      obtain rfl : j = i := by omega
      go_wp2_with fail
      obtain ⟨wo, rfl⟩ : ∃ wo : World, wo = wr := ⟨_, rfl⟩
      go_loopw [13] (Up2 w base g n cap d a b j) (fun v _ => j - cnt v)
      case atStart => exact ⟨a, d, rfl, Nat.le_refl _, by omega, HR.out, Rot.same (.inr rfl) (by omega) (by omega)⟩
      case round =>
        obtain ⟨k, d', rfl, hak, hki, hrow, hrot⟩ := hrel
        have HR2 := Lib.hid hrow
        have HROT := Lib.hid hrot
        clear hrow hrot
        by_cases hlk : k + 1 < j
        · have b3 : decide ((k : Int) < (j : Int) - 1) = true := by simp; omega
          obtain ⟨z, hz⟩ : ∃ z, z = k + 1 := ⟨_, rfl⟩
          have ez : (k : Int) + 1 = (z : Int) := by omega
          have hzn : z < n := by omega
          have hkn : k < n := by omega
          have HZ := Lib.hid hz
          have c1 : wr.cell? ⟨g, off + k, none⟩ = some (.int .i64 (ele d' k)) := by rw [HO.out, Nat.zero_add]; exact HR2.out.cell k hkn
          have c2 : wr.cell? ⟨g, off + z, none⟩ = some (.int .i64 (ele d' z)) := by rw [HO.out, Nat.zero_add]; exact HR2.out.cell z hzn
          have z1 : wr.frozen? ⟨g, off + k, none⟩ = false := by rw [HO.out, Nat.zero_add]; exact HR2.out.frozen _
          have z2 : wr.frozen? ⟨g, off + z, none⟩ = false := by rw [HO.out, Nat.zero_add]; exact HR2.out.frozen _
          clear hz
          go_wp2
          go_region
          all_goals go_wp2
          go_roundw
          case rel =>
            have e1 := HZ.out
            subst e1
            refine ⟨k + 1, swp d' k (k + 1), by go_num, by omega, by omega, ?_, HROT.out.up hak (by rw [HR2.out.len]; exact hzn)⟩
            rw [HO.out, Nat.zero_add, Nat.zero_add]
            exact (HR2.out.swap ⟨by omega, by omega⟩ ⟨by omega, by omega⟩ hb).drew
          case measure => simp [cnt]; omega
        · have b3 : decide ((k : Int) < (j : Int) - 1) = false := by simp; omega
          have HK := Lib.hid (show k + 1 = j by omega)
          go_wp2
          go_end0
          refine ⟨rfl, d', HR2.out, sm_one_up (HSM.out) (HK.out ▸ HROT.out) (by omega) (by omega) (fun q q1 q2 => HLOW.out q (by omega) q2) (fun q q1 q2 => HHIGH.out q q1 q2)⟩
end Go.Proofs.Ytghniddefhdmmaa
