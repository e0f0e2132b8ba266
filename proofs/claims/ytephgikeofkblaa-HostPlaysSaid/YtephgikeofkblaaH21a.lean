/- The walk of the statement HostEnds: it returns true. -/
import Derived.Test.YtephgikeofkblaaHost
import Derived.Test.YtephgikeofkblaaMask
namespace Go.Proofs.Ytephgikeofkblaa
open Go.RowKit Mf

/-- The pages behind t rounds: the first k of them stay. -/
def FE (k t : Nat) : Int → Option Pg := fun j => if 1 ≤ j ∧ j ≤ k ∧ j ≤ t then some ⟨j - 1, false, 0, 0⟩ else none

theorem FE_zero (k : Nat) : FE k 0 = fun _ => none := by
  funext j; unfold FE; rw [if_neg (by omega)]

theorem FE_keep {k t : Nat} (h : t < k) : setF (FE k t) ((t : Int) + 1) ⟨t, false, 0, 0⟩ = FE k (t + 1) := by
  funext j
  unfold setF FE
  by_cases hj : j = (t : Int) + 1
  · subst hj
    rw [if_pos rfl, if_pos (by omega)]
    congr 2
    omega
  · rw [if_neg hj]
    by_cases h1 : 1 ≤ j ∧ j ≤ k ∧ j ≤ t
    · rw [if_pos h1, if_pos (by omega)]
    · rw [if_neg h1, if_neg (by omega)]

theorem FE_gone {k t : Nat} (h : ¬ t < k) : dropF (setF (FE k t) ((t : Int) + 1) ⟨t, false, 0, 0⟩) ((t : Int) + 1) = FE k (t + 1) := by
  have e : setF (FE k t) ((t : Int) + 1) ⟨t, false, 0, 0⟩ ((t : Int) + 1) = some ⟨t, false, 0, 0⟩ := by unfold setF; rw [if_pos rfl]
  unfold dropF
  rw [e]
  show delF _ _ = _
  funext j
  unfold delF setF FE
  by_cases hj : j = (t : Int) + 1
  · subst hj
    rw [if_pos rfl, if_neg (by omega)]
  · rw [if_neg hj, if_neg hj]
    by_cases h1 : 1 ≤ j ∧ j ≤ k ∧ j ≤ t
    · rw [if_pos h1, if_pos (by omega)]
    · rw [if_neg h1, if_neg (by omega)]

theorem FE_drop (k t : Nat) : dropE (setF (FE k t) ((t : Int) + 1) ⟨t, false, 0, 0⟩) ((t : Int) + 1) = ((t : Int), 0) := by
  have e : setF (FE k t) ((t : Int) + 1) ⟨t, false, 0, 0⟩ ((t : Int) + 1) = some ⟨t, false, 0, 0⟩ := by unfold setF; rw [if_pos rfl]
  unfold dropE
  rw [e]; rfl

/-- Within the limit. -/
def LimI (t : Nat) : Prop := (t : Int) ≤ 65536
def limN : Nat := 65536
theorem limN_eq : limN = 65536 := rfl

def UE (k : Nat) : List Int := (List.range k).map fun i : Nat => (i : Int) + 1

theorem UE_sorted (k : Nat) : (UE k).Pairwise (· < ·) := by
  unfold UE
  rw [List.pairwise_map]
  exact List.Pairwise.imp (fun h => by omega) (List.pairwise_lt_range (n := k))

theorem UE_mem {k : Nat} {j : Int} : j ∈ UE k ↔ 1 ≤ j ∧ j ≤ k := by
  unfold UE
  rw [List.mem_map]
  constructor
  · rintro ⟨i, hi, rfl⟩
    have := List.mem_range.1 hi
    omega
  · intro h
    exact ⟨(j - 1).toNat, List.mem_range.2 (by omega), by omega⟩

theorem UE_len (k : Nat) : (UE k).length = k := by unfold UE; simp

theorem FE_some {k t : Nat} {j : Int} (h : (FE k t j).isSome = true) : 1 ≤ j ∧ j ≤ k := by
  unfold FE at h
  by_cases h1 : 1 ≤ j ∧ j ≤ k ∧ j ≤ t
  · exact ⟨h1.1, h1.2.1⟩
  · rw [if_neg h1] at h; cases h

theorem FE_all {k t : Nat} (h : k ≤ t) : ((UE k).filter fun i => (FE k t i).isSome).length = k := by
  rw [List.filter_eq_self.2, UE_len]
  intro j hj
  have := UE_mem.1 hj
  unfold FE
  rw [if_pos (by omega)]; rfl

theorem wf_nat1 (t : Nat) (h : t ≤ 65536) : (Lit.int .i64 ((t : Int) + 1)).wf = true := by
  have := wf_small (k := t + 1) (by omega)
  rw [show ((t + 1 : Nat) : Int) = (t : Int) + 1 from by omega] at this
  exact this

/-- A list's value: its length stands in it. -/
theorem own_slice {w : World} {base size n : Nat} {e : TypeId} {v : Value} {xs : List Value} (h : w.ownsRow base e size v n xs) : ∃ A c, v = .slice A n c := by
  rcases h.2 with ⟨rfl, rfl⟩ | ⟨g, cap, cur, rfl, _⟩
  · exact ⟨none, 0, rfl⟩
  · exact ⟨_, _, rfl⟩

/-- What holds behind t rounds. -/
def RelE (w : World) (k : Nat) (i : Value) (wr : World) : Prop := ∃ t : Nat, i = .int .i64 t ∧ LimI t ∧ BookAt wr (w.heap.size + 1) w.heap.size t t (FE k t) ∧ Below w.heap.size w wr

set_option maxRecDepth 100000 in
set_option maxHeartbeats 4000000 in
theorem hostEnds_walk (a0 : Int) (w : World) : Calls Try.prog 5 #[.int .i64 a0] w fun e w' => e = .returned (.bool true) ∧ Below w.heap.size w w' := by
  have hmask : bits .and .i64 a0 7 = a0 % 8 := mask64 a0 3 (by omega)
  obtain ⟨k, hk⟩ : ∃ k : Nat, a0 % 8 = k := ⟨(a0 % 8).toNat, by omega⟩
  have bk : k ≤ 7 := by omega
  have bk' : (k : Int) ≤ 7 := by omega
  rw [hk] at hmask
  clear hk
  go_enter Try.func5, Try.ntmps5
  go_wp2_with fail
  refine (new_any _).mono ?_; rintro e w1 ⟨rfl, h1, hb1⟩
  have H1 := Lib.hid h1
  have HB1 := Lib.hid hb1
  clear h1 hb1
  go_wp2_with fail
  go_loopw [5] (RelE w k) (fun i _ => limN - (intOf i).toNat)
  case atStart => exact ⟨0, rfl, by unfold LimI; omega, by rw [FE_zero]; exact H1.out, HB1.out⟩
  case round =>
    obtain ⟨t, rfl, ht, hbk, hbel⟩ := hrel
    have ht : (t : Int) ≤ 65536 := ht
    have HK := Lib.hid hbk
    have HB := Lib.hid hbel
    clear hbk hbel
    by_cases hlt : (t : Int) < 65536
    · have hwt := Lib.hid (wf_nat1 t (by omega))
      go_wp2_with fail
      refine (add_ok _ _ _ _ _ t _ HK.out (by omega) (by omega) (by unfold maxLen; omega)).mono ?_; rintro e w2 ⟨rfl, h2, ho2⟩
      have HB2 := Lib.hid (below_only HB.out ho2 (by rintro k (rfl | rfl) <;> omega) HB.out.size)
      have H2 := Lib.hid h2
      clear h2 ho2
      have hi63 : (t : Int) + 1 ≤ 100000 := by omega
      have hi64 : (t : Int) ≤ 100000 := by omega
      have HLT := Lib.hid hlt
      clear hlt ht
      clear bk'
      by_cases hkt0 : t < k
      · have hkt : decide (k ≤ t) = false := by simpa using hkt0
        have HK0 := Lib.hid hkt0
        clear hkt0
        have H3 := Lib.hid (FE_keep HK0.out)
        go_wp2
        exact ⟨⟨t + 1, by go_num, by have := HLT.out; unfold LimI; omega, by rw [← H3.out]; exact H2.out, HB2.out⟩, by simp only [intOf]; have := limN_eq; have := HLT.out; omega⟩
      · have hkt : decide (k ≤ t) = true := by simpa using hkt0
        have HK0 := Lib.hid hkt0
        clear hkt0
        have H3 := Lib.hid (FE_gone HK0.out)
        go_wp2_with fail
        refine (drop_any _ _ _ _ _ _ _ H2.out hwt.out).mono ?_; rintro e w3 ⟨rfl, h3, ho3⟩
        rw [FE_drop]
        have HB3 := Lib.hid (below_only HB2.out ho3 (by rintro k rfl; exact Nat.le_refl _) HB2.out.size)
        rw [H3.out] at h3
        have H4 := Lib.hid h3
        clear h3 ho3
        go_wp2
        exact ⟨⟨t + 1, by go_num, by have := HLT.out; unfold LimI; omega, H4.out, HB3.out⟩, by simp only [intOf]; have := limN_eq; have := HLT.out; omega⟩
    · go_wp2_with fail
      refine (add_full _ _ _ _ _ 1 _ HK.out (by omega) (by omega)).mono ?_; rintro e w2 ⟨rfl, rfl⟩
      go_wp2_with fail
      refine (told_any _).mono ?_; rintro e w3 ⟨rfl, hb3⟩
      have H3 := Lib.hid (HK.out.below hb3)
      have HB3 := Lib.hid (HB.out.trans (hb3.mono HB.out.size))
      clear hb3
      go_wp2_with fail
      refine (list_any _ _ _ _ _ (UE k) _ H3.out (UE_sorted k) (by rw [UE_len]; omega) (fun j hj => UE_mem.2 (FE_some hj))).mono ?_; rintro e w4 ⟨v, rfl, hown, hb4⟩
      rw [FE_all (by omega)] at hown
      obtain ⟨A, c, rfl⟩ := own_slice hown
      have HB4 := Lib.hid (HB3.out.trans (hb4.mono HB3.out.size))
      clear hown hb4
      go_wp2
      go_ret
      exact ⟨rfl, HB4.out⟩
end Go.Proofs.Ytephgikeofkblaa
