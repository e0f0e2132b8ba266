/- The sort by insertion of places by their heats: stable. -/
import Derived.Test.YtghniddefhdmmaaHtc
import Derived.RegionTactic
import Derived.BigRegion
namespace Go.Proofs.Ytghniddefhdmmaa
open Go.RowKit Flo

/-- A heat's rank, and a place's. -/
def hk (x : Int × Int) : Int := ((x.1 * x.1 + x.2 * x.2) * 2097152 + x.1) * 2097152 + x.2
def lex (hs : List (Int × Int)) (i : Int) : Int := hk (hAt hs i.toNat) * 1024 + i

theorem lessB_hk {x y : Int × Int} (hx : Rgt x) (hy : Rgt y) : lessB x.1 x.2 y.1 y.2 = true ↔ hk x < hk y := by
  obtain ⟨⟨r1, r2⟩, r3, r4⟩ := hx
  obtain ⟨⟨s1, s2⟩, s3, s4⟩ := hy
  unfold lessB hk
  generalize x.1 * x.1 + x.2 * x.2 = P
  generalize y.1 * y.1 + y.2 * y.2 = Q
  by_cases h : P = Q
  · rw [if_pos h]
    by_cases h2 : x.1 = y.1
    · rw [if_pos h2, decide_eq_true_eq]; omega
    · rw [if_neg h2, decide_eq_true_eq]; omega
  · rw [if_neg h, decide_eq_true_eq]; omega

theorem cvH_neg {x y : Int × Int} (hx : Rgt x) (hy : Rgt y) : cvH x y < 0 ↔ hk x < hk y := by
  unfold cvH
  rw [← lessB_hk hx hy]
  split
  · rename_i h; rw [h]; simp
  · rename_i h
    split
    · simp only [h]; simp
    · simp only [h]; simp

theorem lex_lt {hs : List (Int × Int)} {i j : Nat} (hx : Rgt (hAt hs i)) (hy : Rgt (hAt hs j)) (hij : j < i) (hi : i ≤ 1000) : cvH (hAt hs i) (hAt hs j) < 0 ↔ lex hs i < lex hs j := by
  rw [cvH_neg hx hy]
  unfold lex
  rw [Int.toNat_natCast, Int.toNat_natCast]
  omega

theorem Seg.mem {d d' : List Int} {a b : Nat} (h : Seg d d' a b) {p : Int → Prop} (hp : ∀ x ∈ d, p x) : ∀ x ∈ d', p x := fun x hx => hp x (h.perm.mem_iff.1 hx)

theorem ele_in {d : List Int} {k : Nat} (h : k < d.length) : ele d k ∈ d := List.mem_of_getElem? (ele_some h)

def OutH (w : World) (base g n cap : Nat) (K : Int → Int) (d0 : List Int) (a b : Nat) (v : Value) (wr : World) : Prop := ∃ (i : Nat) (d : List Int), v = .int .i64 i ∧ a < i ∧ i ≤ b + 1 ∧ RowI w base g n cap d0 a b d wr ∧ Srtd (d.map K) a (if i ≤ b then i else b) ∧ ∀ p q, a ≤ p → p < q → q < b → i ≤ q → ele d p < ele d q
def InnH (w : World) (base g n cap : Nat) (K : Int → Int) (d0 dk : List Int) (a b i : Nat) (v : Value) (wr : World) : Prop := ∃ (j : Nat) (d : List Int), v = .int .i64 j ∧ a ≤ j ∧ j ≤ i ∧ RowI w base g n cap d0 a b d wr ∧ Seg dk d a (i + 1) ∧ Ins (d.map K) a i j ∧ ∀ p, a ≤ p → p < j → ele d p < ele d j

set_option maxRecDepth 100000 in
set_option maxHeartbeats 8000000 in
theorem ins_h (base g off n cap a b hp hr : Nat) (hs : List (Int × Int)) (hoff : off = 0) (d : List Int) (w : World) (h : RowX w base g n cap d) (hm : HMem w hp hr n hs) (hne : g ≠ hp ∧ g ≠ hr) (hix : ∀ x ∈ d, 0 ≤ x ∧ x < n)
    (hrise : ∀ p q, a ≤ p → p < q → q < b → ele d p < ele d q) (hab : a ≤ b) (hb : b ≤ n) (hn : n ≤ 1000) :
    Calls Try.prog 30 #[.slice (some ⟨g, off, none⟩) n cap, .int .i64 a, .int .i64 b, .func (.func 21) #[] #[.pointer (some ⟨hp, 0, none⟩)]] w fun e w' =>
      e = .returned (.tuple #[]) ∧ ∃ d', RowI w base g n cap d a b d' w' ∧ Srtd (d'.map (lex hs)) a b := by
  have HO := Lib.hid hoff
  have HM0 := Lib.hid (show ∀ dj wr, RowI w base g n cap d a b dj wr → HMem wr hp hr n hs from fun dj wr hr => hm.grown hr.grown hne.1 hne.2)
  have HIX := Lib.hid (show ∀ dj wr, RowI w base g n cap d a b dj wr → ∀ k, k < n → ∃ x : Nat, ele dj k = x ∧ x < n from fun dj wr hr k hk => by
    obtain ⟨h1, h2⟩ := hr.seg.mem (p := fun x => 0 ≤ x ∧ x < (n : Int)) hix _ (ele_in (k := k) (by rw [hr.len]; exact hk))
    exact ⟨(ele dj k).toNat, by omega, by omega⟩)
  have HRISE0 := Lib.hid hrise
  have HW := Lib.hid h
  clear hoff hm hix hrise h
  go_enter Try.func30, Try.ntmps30
  go_wp2_with fail
  go_loopw [8] (OutH w base g n cap (lex hs) d a b) (fun v _ => b + 1 - cnt v)
  case atStart => exact ⟨a + 1, d, by go_num, by omega, by omega, RowI.start HW.out a b, fun p q h1 h2 h3 => by split at h3 <;> omega, fun p q h1 h2 h3 _ => HRISE0.out p q h1 h2 h3⟩
  case round =>
    obtain ⟨i, dk, rfl, hai, hib, hrow, hsd, hri⟩ := hrel
    have HR := Lib.hid hrow
    have HS := Lib.hid hsd
    have HRISE := Lib.hid hri
    clear hrow hsd hri
    by_cases hlt : i < b
    · go_wp2_with fail
      obtain ⟨wo, rfl⟩ : ∃ wo : World, wo = wr := ⟨_, rfl⟩
      go_loopw [9] (InnH w base g n cap (lex hs) d dk a b i) (fun v _ => cnt v)
      case atStart => exact ⟨i, dk, rfl, by omega, Nat.le_refl _, HR.out, Seg.refl _ _ _, Ins.start (by have := HS.out; rw [if_pos (by omega)] at this; exact this), fun p h1 h2 => HRISE.out p i h1 h2 hlt (Nat.le_refl _)⟩
      case round =>
        obtain ⟨j, dj, rfl, haj, hji, hrj, hsg, hin, hlow⟩ := hrel
        have hjn : j < n := by omega
        obtain ⟨x, hx, hxn⟩ := HIX.out dj wr hrj j hjn
        have c1 : wr.cell? ⟨g, off + j, none⟩ = some (.int .i64 (x : Int)) := by rw [← hx, HO.out, Nat.zero_add]; exact hrj.cell j hjn
        have HJ := Lib.hid hrj
        have HI := Lib.hid hin
        have HSG := Lib.hid hsg
        have HLOW := Lib.hid hlow
        have HX := Lib.hid hx
        have HMJ := Lib.hid ((HM0.out dj wr hrj).drew)
        clear hrj hin hsg hlow hx
        by_cases hja : a < j
        · obtain ⟨y, hy, hyn⟩ := HIX.out dj wr HJ.out (j - 1) (by omega)
          have c2 : wr.cell? ⟨g, off + (j - 1), none⟩ = some (.int .i64 (y : Int)) := by rw [← hy, HO.out, Nat.zero_add]; exact HJ.out.cell (j - 1) (by omega)
          have HY := Lib.hid hy
          have hxy : y < x := by
            have := HLOW.out (j - 1) (by omega) (by omega)
            rw [hy, HX.out] at this
            omega
          have hja' : decide ((a : Int) < (j : Int)) = true := by simp; omega
          have hiff := lex_lt (HMJ.out.rg hxn) (HMJ.out.rg hyn) hxy (by omega)
          have HIFF := Lib.hid hiff
          have HCC := Lib.hid (show wr.drew.cell? ⟨g, off + j, none⟩ = some (.int .i64 (x : Int)) ∧ wr.drew.cell? ⟨g, off + (j - 1), none⟩ = some (.int .i64 (y : Int)) from ⟨c1, c2⟩)
          have HKP := Lib.hid (show ∀ w1, Below wr.drew.heap.size wr.drew w1 → w1.cell? ⟨g, off + j, none⟩ = some (.int .i64 (x : Int)) ∧ w1.cell? ⟨g, off + (j - 1), none⟩ = some (.int .i64 (y : Int)) from fun w1 hb1 => by
            have hr1 := HJ.out.drew.below hb1
            constructor
            · rw [← HX.out, HO.out, Nat.zero_add]; exact hr1.cell j hjn
            · rw [← HY.out, HO.out, Nat.zero_add]; exact hr1.cell (j - 1) (by omega))
          have hj1 : 1 ≤ j := by omega
          have hwj : IntKind.i64.wrap ((j : Int) - 1) = (j : Int) - 1 := IntWalk.i64_in _ (by omega)
          have hj0 : (0 : Int) ≤ (j : Int) - 1 := by omega
          have hj1i : (1 : Int) ≤ (j : Int) := by omega
          have hjn2 : (j : Int) - 1 < (n : Int) := by omega
          have hjt : ((j : Int) - 1).toNat = j - 1 := by omega
          clear hy c1 c2 hiff
          go_wp2_with fail
          refine wp_region_held_drew (S := (fun w' => w'.cell? ⟨g, off + j, none⟩ = some (.int .i64 (x : Int)) ∧ w'.cell? ⟨g, off + (j - 1), none⟩ = some (.int .i64 (y : Int)))) (by kernel_rfl) ?_ (fun hHeld => ?_)
          · exact HCC.out
          ((refine takeY 0 (v := ?_) rfl (by kernel_rfl) (by kernel_rfl) (by kernel_rfl) (fun _ _ _ h => h) (by rfl) (by assumption) ?_ ?_; rotate_left; · (intro w hSw; (try dsimp only at hSw); go_simp; (first | done | with_reducible rfl))))
          (try simp only [Act.put, List.setIfInBounds_toArray, List.set_cons_zero, List.set_cons_succ])
          ((refine takeY 1 (v := ?_) rfl (by kernel_rfl) (by kernel_rfl) (by kernel_rfl) (fun _ _ _ h => h) (by rfl) (by assumption) ?_ ?_; rotate_left; · (intro w hSw; (try dsimp only at hSw); go_simp; (first | done | with_reducible rfl))))
          (try simp only [Act.put, List.setIfInBounds_toArray, List.set_cons_zero, List.set_cons_succ])
          ((refine takeY 2 (v := ?_) rfl (by kernel_rfl) (by kernel_rfl) (by kernel_rfl) (fun _ _ _ h => h) (by rfl) (by assumption) ?_ ?_; rotate_left; · (intro w hSw; (try dsimp only at hSw); go_simp; (first | done | with_reducible rfl))))
          (try simp only [Act.put, List.setIfInBounds_toArray, List.set_cons_zero, List.set_cons_succ])
          ((refine takeY 3 (v := ?_) rfl (by kernel_rfl) (by kernel_rfl) (by kernel_rfl) (fun _ _ _ h => h) (by rfl) (by assumption) ?_ ?_; rotate_left; · (intro w hSw; (try dsimp only at hSw); go_simp; (first | done | with_reducible rfl))))
          (try simp only [Act.put, List.setIfInBounds_toArray, List.set_cons_zero, List.set_cons_succ])
          (first | (refine takeN 4 rfl (by kernel_rfl) (by kernel_rfl) (by kernel_rfl) (fun _ _ _ h => h) (by rfl) (by assumption) ?_) | (refine takeY 4 (v := ?_) rfl (by kernel_rfl) (by kernel_rfl) (by kernel_rfl) (fun _ _ _ h => h) (by rfl) (by assumption) ?_ ?_; rotate_left; · (intro w hSw; (try dsimp only at hSw); go_simp; (first | done | with_reducible rfl))))
          (try simp only [Act.put, List.setIfInBounds_toArray, List.set_cons_zero, List.set_cons_succ])
          (first | (refine takeN 5 rfl (by kernel_rfl) (by kernel_rfl) (by kernel_rfl) (fun _ _ _ h => h) (by rfl) (by assumption) ?_) | (refine takeY 5 (v := ?_) rfl (by kernel_rfl) (by kernel_rfl) (by kernel_rfl) (fun _ _ _ h => h) (by rfl) (by assumption) ?_ ?_; rotate_left; · (intro w hSw; (try dsimp only at hSw); go_simp; (first | done | with_reducible rfl))))
          (try simp only [Act.put, List.setIfInBounds_toArray, List.set_cons_zero, List.set_cons_succ])
          (first | (refine takeN 6 rfl (by kernel_rfl) (by kernel_rfl) (by kernel_rfl) (fun _ _ _ h => h) (by rfl) (by assumption) ?_) | (refine takeY 6 (v := ?_) rfl (by kernel_rfl) (by kernel_rfl) (by kernel_rfl) (fun _ _ _ h => h) (by rfl) (by assumption) ?_ ?_; rotate_left; · (intro w hSw; (try dsimp only at hSw); go_simp; (first | done | with_reducible rfl))))
          (try simp only [Act.put, List.setIfInBounds_toArray, List.set_cons_zero, List.set_cons_succ])
          (first | (refine takeN 7 rfl (by kernel_rfl) (by kernel_rfl) (by kernel_rfl) (fun _ _ _ h => h) (by rfl) (by assumption) ?_) | (refine takeY 7 (v := ?_) rfl (by kernel_rfl) (by kernel_rfl) (by kernel_rfl) (fun _ _ _ h => h) (by rfl) (by assumption) ?_ ?_; rotate_left; · (intro w hSw; (try dsimp only at hSw); go_simp; (first | done | with_reducible rfl))))
          (try simp only [Act.put, List.setIfInBounds_toArray, List.set_cons_zero, List.set_cons_succ])
          (first | (refine takeN 8 rfl (by kernel_rfl) (by kernel_rfl) (by kernel_rfl) (fun _ _ _ h => h) (by rfl) (by assumption) ?_) | (refine takeY 8 (v := ?_) rfl (by kernel_rfl) (by kernel_rfl) (by kernel_rfl) (fun _ _ _ h => h) (by rfl) (by assumption) ?_ ?_; rotate_left; · (intro w hSw; (try dsimp only at hSw); go_simp; (first | done | with_reducible rfl))))
          (try simp only [Act.put, List.setIfInBounds_toArray, List.set_cons_zero, List.set_cons_succ])
          (first | (refine takeN 9 rfl (by kernel_rfl) (by kernel_rfl) (by kernel_rfl) (fun _ _ _ h => h) (by rfl) (by assumption) ?_) | (refine takeY 9 (v := ?_) rfl (by kernel_rfl) (by kernel_rfl) (by kernel_rfl) (fun _ _ _ h => h) (by rfl) (by assumption) ?_ ?_; rotate_left; · (intro w hSw; (try dsimp only at hSw); go_simp; (first | done | with_reducible rfl))))
          (try simp only [Act.put, List.setIfInBounds_toArray, List.set_cons_zero, List.set_cons_succ])
          (first | (refine takeN 10 rfl (by kernel_rfl) (by kernel_rfl) (by kernel_rfl) (fun _ _ _ h => h) (by rfl) (by assumption) ?_) | (refine takeY 10 (v := ?_) rfl (by kernel_rfl) (by kernel_rfl) (by kernel_rfl) (fun _ _ _ h => h) (by rfl) (by assumption) ?_ ?_; rotate_left; · (intro w hSw; (try dsimp only at hSw); go_simp; (first | done | with_reducible rfl))))
          (try simp only [Act.put, List.setIfInBounds_toArray, List.set_cons_zero, List.set_cons_succ])
          (first | (refine takeN 11 rfl (by kernel_rfl) (by kernel_rfl) (by kernel_rfl) (fun _ _ _ h => h) (by rfl) (by assumption) ?_) | (refine takeY 11 (v := ?_) rfl (by kernel_rfl) (by kernel_rfl) (by kernel_rfl) (fun _ _ _ h => h) (by rfl) (by assumption) ?_ ?_; rotate_left; · (intro w hSw; (try dsimp only at hSw); go_simp; (first | done | with_reducible rfl))))
          (try simp only [Act.put, List.setIfInBounds_toArray, List.set_cons_zero, List.set_cons_succ])
          (first | (refine takeN 12 rfl (by kernel_rfl) (by kernel_rfl) (by kernel_rfl) (fun _ _ _ h => h) (by rfl) (by assumption) ?_) | (refine takeY 12 (v := ?_) rfl (by kernel_rfl) (by kernel_rfl) (by kernel_rfl) (fun _ _ _ h => h) (by rfl) (by assumption) ?_ ?_; rotate_left; · (intro w hSw; (try dsimp only at hSw); go_simp; (first | done | with_reducible rfl))))
          (try simp only [Act.put, List.setIfInBounds_toArray, List.set_cons_zero, List.set_cons_succ])
          (first | (refine takeN 13 rfl (by kernel_rfl) (by kernel_rfl) (by kernel_rfl) (fun _ _ _ h => h) (by rfl) (by assumption) ?_) | (refine takeY 13 (v := ?_) rfl (by kernel_rfl) (by kernel_rfl) (by kernel_rfl) (fun _ _ _ h => h) (by rfl) (by assumption) ?_ ?_; rotate_left; · (intro w hSw; (try dsimp only at hSw); go_simp; (first | done | with_reducible rfl))))
          (try simp only [Act.put, List.setIfInBounds_toArray, List.set_cons_zero, List.set_cons_succ])
          try ((first | (refine takeN 15 rfl (by kernel_rfl) (by decide +kernel) (by decide +kernel) (fun _ _ _ h => h) (by rfl) (by assumption) ?_) | (refine takeY 15 (v := ?_) rfl (by kernel_rfl) (by decide +kernel) (by decide +kernel) (fun _ _ _ h => h) (by rfl) (by assumption) ?_ ?_; rotate_left; · (intro w hSw; (try dsimp only at hSw); go_simp; (first | done | with_reducible rfl)))); (try simp only [Act.put, List.setIfInBounds_toArray, List.set_cons_zero, List.set_cons_succ]))
          try (((refine takeY 16 (v := ?_) rfl (by kernel_rfl) (by decide +kernel) (by decide +kernel) (fun _ _ _ h => h) (by rfl) (by assumption) ?_ ?_; rotate_left; · (intro w hSw; (try dsimp only at hSw); go_simp; (first | done | with_reducible rfl)))); (try simp only [Act.put, List.setIfInBounds_toArray, List.set_cons_zero, List.set_cons_succ]))
          first
            | (refine takeN 14 rfl (by kernel_rfl) (by kernel_rfl) (by kernel_rfl) (fun _ _ _ h => h) (by rfl) (by assumption) ?_)
            | (refine stepH 14 rfl (by kernel_rfl) (by rfl) (fun K hK => ?_)
               go_simp
               ((with_reducible refine (cmp_any hp hr n hs x y _ HMJ.out hxn hyn).mono ?_); rintro e w1 ⟨rfl, hb1⟩; have HB1 := Lib.hid hb1; clear hb1)
               (refine hK.out _ _ ?_ (fun hHeld => ?_))
               · exact HKP.out _ HB1.out
               clear hK K)
          try ((first | (refine takeN 15 rfl (by kernel_rfl) (by decide +kernel) (by decide +kernel) (fun _ _ _ h => h) (by rfl) (by assumption) ?_) | (refine takeY 15 (v := ?_) rfl (by kernel_rfl) (by decide +kernel) (by decide +kernel) (fun _ _ _ h => h) (by rfl) (by assumption) ?_ ?_; rotate_left; · (intro w hSw; (try dsimp only at hSw); go_simp; (first | done | with_reducible rfl)))); (try simp only [Act.put, List.setIfInBounds_toArray, List.set_cons_zero, List.set_cons_succ]))
          try (((refine takeY 16 (v := ?_) rfl (by kernel_rfl) (by decide +kernel) (by decide +kernel) (fun _ _ _ h => h) (by rfl) (by assumption) ?_ ?_; rotate_left; · (intro w hSw; (try dsimp only at hSw); go_simp; (first | done | with_reducible rfl)))); (try simp only [Act.put, List.setIfInBounds_toArray, List.set_cons_zero, List.set_cons_succ]))
          refine wpAnyH_done (by kernel_rfl) ?_ _
          have HR1 := Lib.hid (HJ.out.drew.below HB1.out)
          clear hHeld HCC HKP hwj hj0 hjn2 hjt
          have hlen : dj.length = n := HR1.out.len
          have HLEN := Lib.hid hlen
          by_cases hcc : cvH (hAt hs x) (hAt hs y) < 0
          · have hcv : decide (cvH (hAt hs x) (hAt hs y) < 0) = true := by simpa using hcc
            have HLT := Lib.hid (show ele (dj.map (lex hs)) j < ele (dj.map (lex hs)) (j - 1) from by
              rw [ele_map (by omega), ele_map (by omega), HX.out, HY.out]; exact HIFF.out.1 hcc)
            rw [hcv]
            have c1 : w1.cell? ⟨g, off + j, none⟩ = some (.int .i64 (x : Int)) := by rw [← HX.out, HO.out, Nat.zero_add]; exact HR1.out.cell j hjn
            have c2 : w1.cell? ⟨g, off + (j - 1), none⟩ = some (.int .i64 (y : Int)) := by rw [← HY.out, HO.out, Nat.zero_add]; exact HR1.out.cell (j - 1) (by omega)
            have z1 : w1.frozen? ⟨g, off + j, none⟩ = false := by rw [HO.out, Nat.zero_add]; exact HR1.out.frozen _
            have z2 : w1.frozen? ⟨g, off + (j - 1), none⟩ = false := by rw [HO.out, Nat.zero_add]; exact HR1.out.frozen _
            clear hcc hcv hlen
            go_wp2
            go_region
            all_goals go_wp2
            go_roundw
            case rel =>
              refine ⟨j - 1, swp dj j (j - 1), by congr 1; omega, by omega, by omega, ?_, HSG.out.swp ⟨by omega, by omega⟩ ⟨by omega, by omega⟩ (by have := HSG.out.len; have := HLEN.out; omega), ?_, fun p h1 h2 => ?_⟩
              · rw [← HX.out, ← HY.out, HO.out, Nat.zero_add, Nat.zero_add]
                exact (HR1.out.swap ⟨by omega, by omega⟩ ⟨by omega, by omega⟩ hb).drew
              · rw [swp_map (by have := HLEN.out; omega) (by have := HLEN.out; omega)]
                exact HI.out.step hja hji (by rw [List.length_map, HLEN.out]; omega) HLT.out
              · have hs := fun k => swp_ele (d := dj) (i := j) (j := j - 1) (by have := HLEN.out; omega) (by have := HLEN.out; omega) k
                rw [hs, hs, if_neg (by omega), if_neg (by omega), if_pos rfl]
                exact HLOW.out p h1 (by omega)
            case measure => simp [cnt]; omega
          · have hcv : decide (cvH (hAt hs x) (hAt hs y) < 0) = false := by simpa using hcc
            have HDONE := Lib.hid (show Srtd (dj.map (lex hs)) a (i + 1) from HI.out.done (by
              rw [ele_map (by omega), ele_map (by omega), HX.out, HY.out]
              have := mt HIFF.out.2 hcc
              omega))
            rw [hcv]
            clear hcc hcv hlen
            go_wp2
            go_roundw
            case rel =>
              refine ⟨i + 1, dj, by go_num, by omega, by omega, HR1.out, by rw [if_pos (by omega)]; exact HDONE.out, fun p q h1 h2 h3 h4 => ?_⟩
              have hsg := HSG.out
              have hbl : b ≤ dk.length := by have := HJ.out.len; have := hsg.len; omega
              rw [hsg.out q (.inr (by omega))]
              by_cases hp : p < i + 1
              · exact hsg.all (by omega) (p := fun x => x < ele dk q) (fun k k1 k2 => HRISE.out k q k1 (by omega) h3 (by omega)) p h1 hp
              · rw [hsg.out p (.inr (by omega))]; exact HRISE.out p q h1 h2 h3 (by omega)
            case measure => simp [cnt]; omega
        · have hja' : decide ((a : Int) < (j : Int)) = false := by simp; omega
          have hje : j = a := by omega
          have HDONE := Lib.hid (show Srtd (dj.map (lex hs)) a (i + 1) from Ins.done0 (hje ▸ HI.out))
          clear hje
          go_wp2_with fail
          go_quiet (fail)
          go_wp2
          go_roundw
          case rel =>
            refine ⟨i + 1, dj, by go_num, by omega, by omega, HJ.out.drewN _, by rw [if_pos (by omega)]; exact HDONE.out, fun p q h1 h2 h3 h4 => ?_⟩
            have hsg := HSG.out
            have hbl : b ≤ dk.length := by have := HJ.out.len; have := hsg.len; omega
            rw [hsg.out q (.inr (by omega))]
            by_cases hp : p < i + 1
            · exact hsg.all (by omega) (p := fun x => x < ele dk q) (fun k k1 k2 => HRISE.out k q k1 (by omega) h3 (by omega)) p h1 hp
            · rw [hsg.out p (.inr (by omega))]; exact HRISE.out p q h1 h2 h3 (by omega)
          case measure => simp [cnt]; omega
    · go_wp2
      go_end0
      refine ⟨rfl, dk, HR.out, ?_⟩
      have := HS.out
      split at this
      · have e : i = b := by omega
        rw [← e]; exact this
      · exact this
end Go.Proofs.Ytghniddefhdmmaa
