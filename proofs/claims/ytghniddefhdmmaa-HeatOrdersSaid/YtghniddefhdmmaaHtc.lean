/- What the comparison in Rank of package heat tells: its contract. -/
import Derived.Test.YtghniddefhdmmaaHtb
import Derived.Test.YtghniddefhdmmaaRwi
import Derived.Test.YtghniddefhdmmaaSrtl
import Derived.Test.YtghniddefhdmmaaTake
namespace Go.Proofs.Ytghniddefhdmmaa
open Go.RowKit Flo

/-- A heat's value. -/
def hv (x : Int × Int) : Value := .complex .f64 (F x.1) (F x.2)
def Rgt (x : Int × Int) : Prop := (0 ≤ x.1 ∧ x.1 ≤ 1048576) ∧ 0 ≤ x.2 ∧ x.2 ≤ 1048576
def hAt (hs : List (Int × Int)) (i : Nat) : Int × Int := hs.getD i (0, 0)

/-- The heats that Rank keeps: a variable that points to their row. -/
structure HMem (w : World) (hp hr n : Nat) (hs : List (Int × Int)) : Prop where
  p : Blk w hp 33 #[.slice (some ⟨hr, 0, none⟩) n n]
  r : w.ownsRow 0 22 1 (.slice (some ⟨hr, 0, none⟩) n n) n (hs.map hv)
  rng : ∀ x ∈ hs, Rgt x

section
variable {w w' : World} {hp hr n g : Nat} {hs : List (Int × Int)}
theorem HMem.len (h : HMem w hp hr n hs) : hs.length = n := by have := h.r.1; simpa using this
theorem HMem.grown (h : HMem w hp hr n hs) (hg : w.grownBy w' (some g)) (h1 : g ≠ hp) (h2 : g ≠ hr) : HMem w' hp hr n hs :=
  ⟨h.p.grown hg (fun e => h1 (Option.some.inj e).symm), h.r.kept hg (.inr fun e => h2 (Option.some.inj e).symm), h.rng⟩
theorem HMem.below (h : HMem w hp hr n hs) (hb : Below w.heap.size w w') : HMem w' hp hr n hs := ⟨h.p.below hb h.p.lt, own_below h.r hb, h.rng⟩
theorem HMem.drew (h : HMem w hp hr n hs) : HMem w.drew hp hr n hs := h.below (below_drewN (Below.refl _ _) 1)
theorem HMem.c0 (h : HMem w hp hr n hs) : w.cell? ⟨hp, 0, none⟩ = some (.slice (some ⟨hr, 0, none⟩) n n) := (h.p.cell 0).trans rfl
theorem HMem.at_ (h : HMem w hp hr n hs) {i : Nat} (hi : i < n) : w.cell? ⟨hr, i, none⟩ = some (hv (hAt hs i)) := by
  have hl := h.len
  rw [h.r.cellAt i (by omega), List.getElem?_map]
  unfold hAt
  rw [List.getD_eq_getElem?_getD, List.getElem?_eq_getElem (by omega)]; rfl
theorem HMem.rg (h : HMem w hp hr n hs) {i : Nat} (hi : i < n) : Rgt (hAt hs i) := by
  have hl := h.len
  unfold hAt
  rw [List.getD_eq_getElem?_getD, List.getElem?_eq_getElem (by omega)]
  exact h.rng _ (List.getElem_mem (by omega))
end

theorem ret_i {a b : Int} (h : a = b) : Ending.returned (.int .i64 a) = .returned (.int .i64 b) := by rw [h]

/-- What the comparison tells. -/
def cvH (x y : Int × Int) : Int := if lessB x.1 x.2 y.1 y.2 then -1 else if lessB y.1 y.2 x.1 x.2 then 1 else 0

set_option maxRecDepth 100000 in
set_option maxHeartbeats 2000000 in
theorem cmp_any (hp hr n : Nat) (hs : List (Int × Int)) (i j : Nat) (w : World) (h : HMem w hp hr n hs) (hi : i < n) (hj : j < n) :
    Calls Try.prog 21 #[.int .i64 i, .int .i64 j, .pointer (some ⟨hp, 0, none⟩)] w fun e w' => e = .returned (.int .i64 (cvH (hAt hs i) (hAt hs j))) ∧ Below w.heap.size w w' := by
  obtain ⟨⟨r1, r2⟩, r3, r4⟩ := h.rg hi
  obtain ⟨⟨s1, s2⟩, s3, s4⟩ := h.rg hj
  have HL1 := Lib.hid (fun W => less_any _ _ _ _ (hAt hs i).1 (hAt hs i).2 (hAt hs j).1 (hAt hs j).2 W (F_is _) (F_is _) (F_is _) (F_is _) (by omega) (by omega) (by omega) (by omega))
  have HL2 := Lib.hid (fun W => less_any _ _ _ _ (hAt hs j).1 (hAt hs j).2 (hAt hs i).1 (hAt hs i).2 W (F_is _) (F_is _) (F_is _) (F_is _) (by omega) (by omega) (by omega) (by omega))
  have HM0 := Lib.hid h
  have HM := Lib.hid h.drew
  have c0 := h.c0
  have c1 := h.at_ hi
  have c2 := h.at_ hj
  have hcv : cvH (hAt hs i) (hAt hs j) = if lessB (hAt hs i).1 (hAt hs i).2 (hAt hs j).1 (hAt hs j).2 then -1 else if lessB (hAt hs j).1 (hAt hs j).2 (hAt hs i).1 (hAt hs i).2 then 1 else 0 := rfl
  have HCV := Lib.hid hcv
  clear h r1 r2 r3 r4 s1 s2 s3 s4 hcv
  unfold hv at c1 c2
  have hdd := (⟨c0, c1, c2⟩ : w.cell? ⟨hp, 0, none⟩ = some (.slice (some ⟨hr, 0, none⟩) n n) ∧ w.cell? ⟨hr, i, none⟩ = some (.complex .f64 (F (hAt hs i).1) (F (hAt hs i).2)) ∧ w.cell? ⟨hr, j, none⟩ = some (.complex .f64 (F (hAt hs j).1) (F (hAt hs j).2)))
  have HDD := Lib.hid hdd
  clear hdd
  go_enter Try.func21, Try.ntmps21
  go_wp2_with fail
  refine wp_region_held_drew (S := (fun w' => w'.cell? ⟨hp, 0, none⟩ = some (.slice (some ⟨hr, 0, none⟩) n n) ∧ w'.cell? ⟨hr, i, none⟩ = some (.complex .f64 (F (hAt hs i).1) (F (hAt hs i).2)) ∧ w'.cell? ⟨hr, j, none⟩ = some (.complex .f64 (F (hAt hs j).1) (F (hAt hs j).2)))) (by kernel_rfl) ?_ (fun hHeld => ?_)
  · exact HDD.out
  ((refine takeY 0 (v := ?_) rfl (by kernel_rfl) (by kernel_rfl) (by kernel_rfl) (fun _ _ _ h => h) (by rfl) (by assumption) ?_ ?_; rotate_left; · (intro w hSw; (try dsimp only at hSw); go_simp; (first | done | with_reducible rfl))))
  (try simp only [Act.put, List.setIfInBounds_toArray, List.set_cons_zero, List.set_cons_succ])
  ((refine takeY 1 (v := ?_) rfl (by kernel_rfl) (by kernel_rfl) (by kernel_rfl) (fun _ _ _ h => h) (by rfl) (by assumption) ?_ ?_; rotate_left; · (intro w hSw; (try dsimp only at hSw); go_simp; (first | done | with_reducible rfl))))
  (try simp only [Act.put, List.setIfInBounds_toArray, List.set_cons_zero, List.set_cons_succ])
  ((refine takeY 2 (v := ?_) rfl (by kernel_rfl) (by kernel_rfl) (by kernel_rfl) (fun _ _ _ h => h) (by rfl) (by assumption) ?_ ?_; rotate_left; · (intro w hSw; (try dsimp only at hSw); go_simp; (first | done | with_reducible rfl))))
  (try simp only [Act.put, List.setIfInBounds_toArray, List.set_cons_zero, List.set_cons_succ])
  ((refine takeY 3 (v := ?_) rfl (by kernel_rfl) (by kernel_rfl) (by kernel_rfl) (fun _ _ _ h => h) (by rfl) (by assumption) ?_ ?_; rotate_left; · (intro w hSw; (try dsimp only at hSw); go_simp; (first | done | with_reducible rfl))))
  (try simp only [Act.put, List.setIfInBounds_toArray, List.set_cons_zero, List.set_cons_succ])
  ((refine takeY 4 (v := ?_) rfl (by kernel_rfl) (by kernel_rfl) (by kernel_rfl) (fun _ _ _ h => h) (by rfl) (by assumption) ?_ ?_; rotate_left; · (intro w hSw; (try dsimp only at hSw); go_simp; (first | done | with_reducible rfl))))
  (try simp only [Act.put, List.setIfInBounds_toArray, List.set_cons_zero, List.set_cons_succ])
  ((refine takeY 5 (v := ?_) rfl (by kernel_rfl) (by kernel_rfl) (by kernel_rfl) (fun _ _ _ h => h) (by rfl) (by assumption) ?_ ?_; rotate_left; · (intro w hSw; (try dsimp only at hSw); go_simp; (first | done | with_reducible rfl))))
  (try simp only [Act.put, List.setIfInBounds_toArray, List.set_cons_zero, List.set_cons_succ])
  ((refine takeY 6 (v := ?_) rfl (by kernel_rfl) (by kernel_rfl) (by kernel_rfl) (fun _ _ _ h => h) (by rfl) (by assumption) ?_ ?_; rotate_left; · (intro w hSw; (try dsimp only at hSw); go_simp; (first | done | with_reducible rfl))))
  (try simp only [Act.put, List.setIfInBounds_toArray, List.set_cons_zero, List.set_cons_succ])
  ((refine takeY 7 (v := ?_) rfl (by kernel_rfl) (by kernel_rfl) (by kernel_rfl) (fun _ _ _ h => h) (by rfl) (by assumption) ?_ ?_; rotate_left; · (intro w hSw; (try dsimp only at hSw); go_simp; (first | done | with_reducible rfl))))
  (try simp only [Act.put, List.setIfInBounds_toArray, List.set_cons_zero, List.set_cons_succ])
  first
    | (refine takeN 8 rfl (by kernel_rfl) (by kernel_rfl) (by kernel_rfl) (fun _ _ _ h => h) (by rfl) (by assumption) ?_)
    | (refine stepH 8 rfl (by kernel_rfl) (by rfl) (fun K hK => ?_)
       go_simp
       ((with_reducible refine (HL1.out _).mono ?_); rintro e w1 ⟨rfl, hb1⟩; have HB1 := Lib.hid hb1; have HM1 := Lib.hid (HM.out.below hb1); clear hb1)
       (refine hK.out _ _ ?_ (fun hHeld => ?_))
       · exact ⟨HM1.out.c0, HM1.out.at_ hi, HM1.out.at_ hj⟩
       clear hK K)
  first
    | (refine takeN 9 rfl (by kernel_rfl) (by kernel_rfl) (by kernel_rfl) (fun _ _ _ h => h) (by rfl) (by assumption) ?_)
    | (refine stepH 9 rfl (by kernel_rfl) (by rfl) (fun K hK => ?_)
       go_simp
       skip
       (refine hK.out _ _ ?_ (fun hHeld => ?_))
       · exact ⟨HM1.out.c0, HM1.out.at_ hi, HM1.out.at_ hj⟩
       clear hK K)
  refine wpAnyH_done (by kernel_rfl) ?_ _
  cases hl1 : lessB (hAt hs i).1 (hAt hs i).2 (hAt hs j).1 (hAt hs j).2
  · have HX1 := Lib.hid hl1
    clear hl1 hHeld
    have HMx := Lib.hid HM1.out.drew
    have HDD := Lib.hid (show _ ∧ _ ∧ _ from ⟨HM1.out.c0, HM1.out.at_ hi, HM1.out.at_ hj⟩)
    go_wp2_with fail
    refine wp_region_held_drew (S := (fun w' => w'.cell? ⟨hp, 0, none⟩ = some (.slice (some ⟨hr, 0, none⟩) n n) ∧ w'.cell? ⟨hr, i, none⟩ = some (.complex .f64 (F (hAt hs i).1) (F (hAt hs i).2)) ∧ w'.cell? ⟨hr, j, none⟩ = some (.complex .f64 (F (hAt hs j).1) (F (hAt hs j).2)))) (by kernel_rfl) ?_ (fun hHeld => ?_)
    · exact HDD.out
    ((refine takeY 0 (v := ?_) rfl (by kernel_rfl) (by kernel_rfl) (by kernel_rfl) (fun _ _ _ h => h) (by rfl) (by assumption) ?_ ?_; rotate_left; · (intro w hSw; (try dsimp only at hSw); go_simp; (first | done | with_reducible rfl))))
    (try simp only [Act.put, List.setIfInBounds_toArray, List.set_cons_zero, List.set_cons_succ])
    ((refine takeY 1 (v := ?_) rfl (by kernel_rfl) (by kernel_rfl) (by kernel_rfl) (fun _ _ _ h => h) (by rfl) (by assumption) ?_ ?_; rotate_left; · (intro w hSw; (try dsimp only at hSw); go_simp; (first | done | with_reducible rfl))))
    (try simp only [Act.put, List.setIfInBounds_toArray, List.set_cons_zero, List.set_cons_succ])
    ((refine takeY 2 (v := ?_) rfl (by kernel_rfl) (by kernel_rfl) (by kernel_rfl) (fun _ _ _ h => h) (by rfl) (by assumption) ?_ ?_; rotate_left; · (intro w hSw; (try dsimp only at hSw); go_simp; (first | done | with_reducible rfl))))
    (try simp only [Act.put, List.setIfInBounds_toArray, List.set_cons_zero, List.set_cons_succ])
    ((refine takeY 3 (v := ?_) rfl (by kernel_rfl) (by kernel_rfl) (by kernel_rfl) (fun _ _ _ h => h) (by rfl) (by assumption) ?_ ?_; rotate_left; · (intro w hSw; (try dsimp only at hSw); go_simp; (first | done | with_reducible rfl))))
    (try simp only [Act.put, List.setIfInBounds_toArray, List.set_cons_zero, List.set_cons_succ])
    ((refine takeY 4 (v := ?_) rfl (by kernel_rfl) (by kernel_rfl) (by kernel_rfl) (fun _ _ _ h => h) (by rfl) (by assumption) ?_ ?_; rotate_left; · (intro w hSw; (try dsimp only at hSw); go_simp; (first | done | with_reducible rfl))))
    (try simp only [Act.put, List.setIfInBounds_toArray, List.set_cons_zero, List.set_cons_succ])
    ((refine takeY 5 (v := ?_) rfl (by kernel_rfl) (by kernel_rfl) (by kernel_rfl) (fun _ _ _ h => h) (by rfl) (by assumption) ?_ ?_; rotate_left; · (intro w hSw; (try dsimp only at hSw); go_simp; (first | done | with_reducible rfl))))
    (try simp only [Act.put, List.setIfInBounds_toArray, List.set_cons_zero, List.set_cons_succ])
    ((refine takeY 6 (v := ?_) rfl (by kernel_rfl) (by kernel_rfl) (by kernel_rfl) (fun _ _ _ h => h) (by rfl) (by assumption) ?_ ?_; rotate_left; · (intro w hSw; (try dsimp only at hSw); go_simp; (first | done | with_reducible rfl))))
    (try simp only [Act.put, List.setIfInBounds_toArray, List.set_cons_zero, List.set_cons_succ])
    ((refine takeY 7 (v := ?_) rfl (by kernel_rfl) (by kernel_rfl) (by kernel_rfl) (fun _ _ _ h => h) (by rfl) (by assumption) ?_ ?_; rotate_left; · (intro w hSw; (try dsimp only at hSw); go_simp; (first | done | with_reducible rfl))))
    (try simp only [Act.put, List.setIfInBounds_toArray, List.set_cons_zero, List.set_cons_succ])
    first
      | (refine takeN 8 rfl (by kernel_rfl) (by kernel_rfl) (by kernel_rfl) (fun _ _ _ h => h) (by rfl) (by assumption) ?_)
      | (refine stepH 8 rfl (by kernel_rfl) (by rfl) (fun K hK => ?_)
         go_simp
         ((with_reducible refine (HL2.out _).mono ?_); rintro e w2 ⟨rfl, hb2⟩; have HB2 := Lib.hid hb2; have HM2 := Lib.hid (HMx.out.below hb2); clear hb2)
         (refine hK.out _ _ ?_ (fun hHeld => ?_))
         · exact ⟨HM2.out.c0, HM2.out.at_ hi, HM2.out.at_ hj⟩
         clear hK K)
    first
      | (refine takeN 9 rfl (by kernel_rfl) (by kernel_rfl) (by kernel_rfl) (fun _ _ _ h => h) (by rfl) (by assumption) ?_)
      | (refine stepH 9 rfl (by kernel_rfl) (by rfl) (fun K hK => ?_)
         go_simp
         skip
         (refine hK.out _ _ ?_ (fun hHeld => ?_))
         · exact ⟨HM2.out.c0, HM2.out.at_ hi, HM2.out.at_ hj⟩
         clear hK K)
    refine wpAnyH_done (by kernel_rfl) ?_ _
    have HBB := Lib.hid (show Below w.heap.size w w2 from (below_drewN ((below_drewN (Below.refl _ _) 1).trans HB1.out) 1).trans (HB2.out.mono HB1.out.size))
    cases hl2 : lessB (hAt hs j).1 (hAt hs j).2 (hAt hs i).1 (hAt hs i).2
    · have hfin := Lib.hid (show cvH (hAt hs i) (hAt hs j) = 0 by rw [HCV.out, HX1.out, hl2]; rfl)
      clear hl2
      go_wp2
      go_ret
      exact ⟨ret_i hfin.out.symm, HBB.out⟩
    · have hfin := Lib.hid (show cvH (hAt hs i) (hAt hs j) = 1 by rw [HCV.out, HX1.out, hl2]; rfl)
      clear hl2
      go_wp2
      go_ret
      exact ⟨ret_i hfin.out.symm, HBB.out⟩
  · have hfin := Lib.hid (show cvH (hAt hs i) (hAt hs j) = -1 by rw [HCV.out, hl1]; rfl)
    clear hl1
    go_wp2
    go_ret
    exact ⟨ret_i hfin.out.symm, (below_drewN (Below.refl _ _) 1).trans HB1.out⟩
end Go.Proofs.Ytghniddefhdmmaa
