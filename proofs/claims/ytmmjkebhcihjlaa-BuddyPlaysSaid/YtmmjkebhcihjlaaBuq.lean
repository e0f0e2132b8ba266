/- Package buddy: Runs, its contract. -/
import Derived.Test.YtmmjkebhcihjlaaBur
namespace Go.Proofs.Ytmmjkebhcihjlaa
open Go.RowKit

/-- The greatest runs of a set, by frame. -/
def RunsOf (S : Nat → Bool) (ts : List (Nat × Nat)) : Prop := ts.Pairwise (fun a b => a.1 < b.1) ∧ ∀ f o, (f, o) ∈ ts ↔ Bud.Mx S f o
def pv (x : Nat × Nat) : List Value := [.int .i64 (x.1 : Int), .int .i64 (x.2 : Int)]
theorem pv_len (x : Nat × Nat) : (pv x).length = 2 := rfl

theorem RunsOf.unique {S : Nat → Bool} {ts us : List (Nat × Nat)} (h : RunsOf S ts) (k : RunsOf S us) : ts = us := by
  have hn : ∀ {l : List (Nat × Nat)}, l.Pairwise (fun a b => a.1 < b.1) → l.Nodup := fun h => h.imp fun h e => by subst e; omega
  have hp : ts.Perm us := (List.perm_ext_iff_of_nodup (hn h.1) (hn k.1)).2 fun ⟨f, o⟩ => by rw [h.2, k.2]
  exact List.Perm.eq_of_pairwise (le := fun a b : Nat × Nat => a.1 < b.1) (fun a b _ _ h1 h2 => by omega) h.1 k.1 hp

def cv (o : Nat) (x : Int) : Run := (⟨x.toNat % 2097152, Nat.mod_lt _ (by omega)⟩, o)
def pre (R : Nat → List Int) (o : Nat) : List Run := (List.range o).flatMap fun p => (R p).map (cv p)
theorem pre_succ (R : Nat → List Int) (o : Nat) : pre R (o + 1) = pre R o ++ (R o).map (cv o) := by
  unfold pre
  rw [List.range_succ, List.flatMap_append]
  simp
theorem pre_mem {R : Nat → List Int} {o : Nat} {x : Run} : x ∈ pre R o ↔ x.2 < o ∧ ∃ y ∈ R x.2, cv x.2 y = x := by
  unfold pre
  simp only [List.mem_flatMap, List.mem_range, List.mem_map]
  constructor
  · rintro ⟨p, hp, y, hy, rfl⟩
    exact ⟨hp, y, hy, rfl⟩
  · rintro ⟨h, y, hy, e⟩
    exact ⟨x.2, h, y, hy, e⟩
theorem cv_val {o f : Nat} (h : f < 2097152) : cv o (f : Int) = (⟨f, h⟩, o) := by
  unfold cv
  congr 1
  exact Fin.ext (by simp; omega)

section
variable {M : Nat → Nat → Prop} {R : Nat → List Int}
theorem BSet.pre_mem (h : BSet M R) {x : Run} : x ∈ pre R 10 ↔ x.2 < 10 ∧ M x.1.val x.2 := by
  rw [Go.Proofs.Ytmmjkebhcihjlaa.pre_mem]
  constructor
  · rintro ⟨h1, y, hy, e⟩
    obtain ⟨f, rfl, hm⟩ := (h.mem x.2 h1 y).1 hy
    have hf := h.rng f x.2 h1 hm
    rw [cv_val hf] at e
    refine ⟨h1, ?_⟩
    rw [← e]
    exact hm
  · rintro ⟨h1, hm⟩
    refine ⟨h1, (x.1.val : Int), (h.mem x.2 h1 _).2 ⟨_, rfl, hm⟩, ?_⟩
    rw [cv_val x.1.isLt]
theorem BSet.pre_nodup (h : BSet M R) : ∀ o, o ≤ 10 → (pre R o).Nodup
  | 0, _ => List.nodup_nil
  | o + 1, ho => by
    rw [pre_succ, List.nodup_append]
    refine ⟨BSet.pre_nodup h o (by omega), ?_, fun a ha b hb => ?_⟩
    · have hs := h.srt o (by omega)
      unfold List.Nodup
      rw [List.pairwise_map]
      refine List.Pairwise.imp_of_mem (R := (· < ·)) ?_ hs
      intro a b ha hb hab e
      obtain ⟨f, rfl, hf⟩ := (h.mem o (by omega) a).1 ha
      obtain ⟨g, rfl, hg⟩ := (h.mem o (by omega) b).1 hb
      rw [cv_val (h.rng f o (by omega) hf), cv_val (h.rng g o (by omega) hg)] at e
      have := congrArg (fun r : Run => r.1.val) e
      simp at this
      omega
    · intro e
      subst e
      have h1 := (Go.Proofs.Ytmmjkebhcihjlaa.pre_mem.1 ha).1
      obtain ⟨y, _, e⟩ := List.mem_map.1 hb
      rw [← e] at h1
      exact absurd h1 (Nat.lt_irrefl o)

theorem runs_of {S : Nat → Bool} (h : BSet (Bud.Mx S) R) {ts : List Run} (hp : ts.Perm (pre R 10)) (hs : ts.Pairwise (fun a b => a.1.val ≤ b.1.val)) : RunsOf S (ts.map fun r => (r.1.val, r.2)) := by
  have hn : ts.Nodup := hp.nodup_iff.2 (h.pre_nodup 10 (Nat.le_refl _))
  refine ⟨?_, fun f o => ?_⟩
  · rw [List.pairwise_map]
    refine List.Pairwise.imp_of_mem (R := fun a b : Run => a.1.val ≤ b.1.val ∧ a ≠ b) ?_ (List.pairwise_and_iff.2 ⟨hs, hn⟩)
    rintro a b ha hb ⟨h1, h2⟩
    have m1 := (h.pre_mem.1 ((hp.mem_iff).1 ha)).2
    have m2 := (h.pre_mem.1 ((hp.mem_iff).1 hb)).2
    apply Nat.lt_of_le_of_ne h1
    intro e
    have hpa := Bud.pow_pos a.2
    have hpb := Bud.pow_pos b.2
    have := (m1.unique m2 (Nat.le_refl _) (by omega) (by omega) (by omega)).2
    exact h2 (by obtain ⟨⟨a1, _⟩, a2⟩ := a; obtain ⟨⟨b1, _⟩, b2⟩ := b; simp at e this; subst e; subst this; rfl)
  · rw [List.mem_map]
    constructor
    · rintro ⟨r, hr, e⟩
      have := (h.pre_mem.1 ((hp.mem_iff).1 hr)).2
      injection e with e1 e2
      rw [e1, e2] at this
      exact this
    · intro hm
      have hf := h.rng f o (by have := hm.le; omega) hm
      exact ⟨(⟨f, hf⟩, o), (hp.mem_iff).2 (h.pre_mem.2 ⟨by have := hm.le; show o < 10; omega, hm⟩), rfl⟩
end

theorem infoR : (Try.prog.info? 34).map (fun i => (i.zero, i.size, i.bytes)) = some (some (.agg #[.int .i64 0, .int .i64 0]), 2, 16) := by kernel_rfl
theorem reads_pair (w : World) (a b : Value) (t : TypeId) : Reads (w.alloc (.cells #[a, b] t)) (w.alloc (.cells #[a, b] t)).heap.size 2 (some ⟨w.heap.size, 0, none⟩) 1 [a, b] := by
  refine ⟨rfl, fun _ => ⟨_, rfl, by simp, fun j u hj => ?_⟩⟩
  have hb := Blk.new w t #[a, b]
  match j, hj with
  | 0, hj => cases hj; exact (hb.cell 0).trans rfl
  | 1, hj => cases hj; exact (hb.cell 1).trans rfl
  | j + 2, hj => cases hj

/-- Runs' outer loop. -/
def RnR (w : World) (R : Nat → List Int) (v v12 : Value) (wr : World) : Prop := ∃ o : Nat, v12 = .int .i64 o ∧ o ≤ 10 ∧ (pre R o).length ≤ o * 2097152 ∧ wr.ownsRow w.heap.size 34 2 v (pre R o).length ((pre R o).flatMap rv) ∧ Below w.heap.size w wr
/-- Its inner loop. -/
def RmR (w : World) (R : Nat → List Int) (o : Nat) (v v18 : Value) (wr : World) : Prop := ∃ (k : Nat) (L : List Run), v18 = .int .i64 k ∧ k ≤ (R o).length ∧ L = pre R o ++ ((R o).take k).map (cv o) ∧ L.length ≤ o * 2097152 + k ∧ wr.ownsRow w.heap.size 34 2 v L.length (L.flatMap rv) ∧ Below w.heap.size w wr

theorem BudAt.row {w : World} {c base : Nat} {fi en fr : Int} {vs : Nat → Value} {R : Nat → List Int} (h : BudAt w c base fi en fr vs R) {o : Nat} (ho : o < 10) :
    ∃ A cc, vs o = .slice A (R o).length cc ∧ ∀ k x, (R o)[k]? = some x → ∃ ga, A = some ⟨ga, 0, none⟩ ∧ ga < w.heap.size ∧ w.cell? ⟨ga, k, none⟩ = some (.int .i64 x) := by
  have h1 := h.own o ho
  obtain ⟨A, m, cc, hv⟩ := own_form h1
  rw [hv] at h1
  rcases h1.2 with ⟨e, h0⟩ | ⟨g, cap, cur, e, _⟩
  · injection e with e1 e2 e3
    have e0 : R o = [] := List.eq_nil_of_length_eq_zero h0
    subst e1 e2 e3
    exact ⟨none, 0, by rw [hv, e0]; rfl, fun k x hk => by rw [e0] at hk; cases hk⟩
  · injection e with e1 e2 e3
    subst e1 e2 e3
    refine ⟨_, _, hv, fun k x hk => ⟨g, rfl, (h1.lt g rfl).2, ?_⟩⟩
    have hkl : k < (R o).length := (List.getElem?_eq_some_iff.1 hk).1
    have := h1.cellAt k (by omega)
    rw [this]
    simp [hk]

set_option maxRecDepth 100000 in
set_option maxHeartbeats 4000000 in
theorem bruns_any (c base : Nat) (fi en fr : Int) (vs : Nat → Value) (R : Nat → List Int) (S : Nat → Bool) (w : World) (h : Bdy w c base fi en fr vs R (Bud.Mx S)) :
    Calls Try.prog 20 #[.pointer (some ⟨c, 0, none⟩)] w fun e w' => ∃ (v : Value) (ts : List (Nat × Nat)), e = .returned v ∧ RunsOf S ts ∧ w'.ownsRow w.heap.size 34 2 v ts.length (ts.flatMap pv) ∧ Below w.heap.size w w' := by
  have HB := Lib.hid h.at_
  have HS := Lib.hid h.set
  have c2 : w.cell? ⟨c, 2, none⟩ = some (vs 0) := h.at_.blk.cell 2
  have c3 : w.cell? ⟨c, 3, none⟩ = some (vs 1) := h.at_.blk.cell 3
  have c4 : w.cell? ⟨c, 4, none⟩ = some (vs 2) := h.at_.blk.cell 4
  have c5 : w.cell? ⟨c, 5, none⟩ = some (vs 3) := h.at_.blk.cell 5
  have c6 : w.cell? ⟨c, 6, none⟩ = some (vs 4) := h.at_.blk.cell 6
  have c7 : w.cell? ⟨c, 7, none⟩ = some (vs 5) := h.at_.blk.cell 7
  have c8 : w.cell? ⟨c, 8, none⟩ = some (vs 6) := h.at_.blk.cell 8
  have c9 : w.cell? ⟨c, 9, none⟩ = some (vs 7) := h.at_.blk.cell 9
  have c10 : w.cell? ⟨c, 10, none⟩ = some (vs 8) := h.at_.blk.cell 10
  have c11 : w.cell? ⟨c, 11, none⟩ = some (vs 9) := h.at_.blk.cell 11
  clear h
  obtain ⟨i0, hi0, hz0', hz1, hz2⟩ := info_parts infoR
  go_enter Try.func20, Try.ntmps20
  go_wp2_with fail
  clear c2 c3 c4 c5 c6 c7 c8 c9 c10 c11
  obtain ⟨wi, rfl⟩ : ∃ wi : World, wi = w := ⟨_, rfl⟩
  go_loopw [3, 12] (RnR wi R) (fun _ v _ => 10 - cntI v)
  case atStart => exact ⟨0, rfl, by omega, by simp [pre], World.ownsRow_nil _ _ _ _, Below.refl _ _⟩
  case round =>
    obtain ⟨o, rfl, ho, hlen, hown, hbe⟩ := hrel
    have HO := Lib.hid hown
    have HBE := Lib.hid hbe
    clear hown hbe
    by_cases ho10 : o < 10
    · obtain ⟨A, cc, hv, hcell⟩ := HB.out.row ho10
      have hix : ∀ W : World, (Instr.index 52 (.agg #[vs 0, vs 1, vs 2, vs 3, vs 4, vs 5, vs 6, vs 7, vs 8, vs 9]) (.int .i64 (o : Int))).run Try.prog W = .ok (.slice A (R o).length cc) W := fun W => by rw [← hv]; exact run_index10 vs ho10 W
      have HC := Lib.hid hcell
      have hoi : (o : Int) < 10 := by omega
      clear hv hcell
      obtain ⟨n, hn⟩ : ∃ n, (R o).length = n := ⟨_, rfl⟩
      rw [hn] at hix
      have hnl : n ≤ 2097152 := hn ▸ HS.out.len ho10
      have HN := Lib.hid hn
      clear hn
      go_wp2_with fail
      obtain ⟨wm, rfl⟩ : ∃ wm : World, wm = wr := ⟨_, rfl⟩
      go_loopw [3, 18] (RmR wi R o) (fun _ v _ => n - cntI v)
      case atStart => exact ⟨0, pre R o, rfl, Nat.zero_le _, by rw [List.take_zero, List.map_nil, List.append_nil], Nat.le_trans hlen (Nat.le_add_right _ _), HO.out, HBE.out⟩
      case round =>
        obtain ⟨k, L, rfl, hk, hL, hll, hown, hbe⟩ := hrel
        have HO2 := Lib.hid hown
        have HB2 := Lib.hid hbe
        have HL := Lib.hid hL
        rw [HN.out] at hk
        clear hown hL
        by_cases hkn : k < n
        · have g5 : decide ((k : Int) < (n : Int)) = true := by simp; exact hkn
          obtain ⟨x, hx⟩ : ∃ x, (R o)[k]? = some x := ⟨_, List.getElem?_eq_getElem (by rw [HN.out]; exact hkn)⟩
          obtain ⟨f, rfl, hf⟩ := (HS.out.mem o ho10 x).1 (List.mem_of_getElem? hx)
          obtain ⟨ga, hga, hgl, hcl⟩ := HC.out k _ hx
          have hf2 := HS.out.rng f o ho10 hf
          have hcl2 : wr.cell? ⟨ga, k, none⟩ = some (.int .i64 (f : Int)) := (hbe.cell (p := ⟨ga, k, none⟩) hgl).trans hcl
          have HX := Lib.hid hx
          subst hga
          clear hx hcl hf hbe
          go_wp2_with (first
            | (at_builtin; refine wpList_append_any _ rfl (.tmp 22) (.tmp 26) _ rfl wi.heap.size 34 i0 _ 2 16 Try.underlying31 hi0 hz0' hz1 hz2 rfl (by omega) u3 _ _ rfl (HO2.out.alloc _) _ (some ⟨wr.heap.size, 0, none⟩) 1 1 [.int .i64 (f : Int), .int .i64 (o : Int)] rfl (reads_pair _ _ _ _) (by simp; exact ⟨rfl, rfl⟩) (by unfold maxLen; omega) (by omega) (by have := HB2.out.size; simp; omega) ?_; intro v2 w4 hown2 hg4 hat2)
            | go_in)
          have hbe4 : Below wi.heap.size wi w4 := (HB2.out.alloc HB2.out.size _).grown hg4 (by have := HB2.out.size; simp; omega) (fun g hg => (HO2.out.lt g hg).1)
          refine ⟨⟨k + 1, L ++ [cv o (f : Int)], by go_num, by rw [HN.out]; omega, ?_, by rw [List.length_append]; simp; omega, ?_, hbe4⟩, by simp [cntI]; omega⟩
          · rw [HL.out, List.take_add_one, HX.out, List.append_assoc]
            simp
          · rw [List.length_append, List.flatMap_append]
            rw [cv_val hf2]
            exact hown2
        · obtain rfl : k = n := by omega
          have g5 : decide ((k : Int) < (k : Int)) = false := by simp
          have hL2 : L = pre R (o + 1) := by rw [HL.out, pre_succ, List.take_of_length_le (by rw [HN.out]; exact Nat.le_refl _)]
          have HL2 := Lib.hid hL2
          have HB3 := Lib.hid hbe
          clear hL2 hbe
          go_wp2
          go_roundw
          case rel => exact ⟨o + 1, by go_num, by omega, by rw [← HL2.out]; omega, by rw [← HL2.out]; exact HO2.out, HB3.out⟩
          case measure => simp [cntI]; omega
    · obtain rfl : o = 10 := by omega
      have hso := Lib.hid (sortRuns_own _ _ _ _ HO.out (by omega))
      go_wp2_with fail
      refine hso.out.mono ?_
      rintro e w3 ⟨rfl, ts, hp, hs, hown3, hg3⟩
      have HR := Lib.hid (runs_of HS.out hp hs)
      have HO3 := Lib.hid (show w3.ownsRow wi.heap.size 34 2 u3 (ts.map fun r => (r.1.val, r.2)).length ((ts.map fun r => (r.1.val, r.2)).flatMap pv) from by
        rw [List.length_map, hp.length_eq, List.flatMap_map]
        exact hown3)
      have HB4 := Lib.hid (HBE.out.grown hg3 HBE.out.size (fun g hg => (HO.out.lt g hg).1))
      clear hp hs hown3 hg3 hso
      go_wp2
      go_ret
      exact ⟨_, _, rfl, HR.out, HO3.out, HB4.out⟩
end Go.Proofs.Ytmmjkebhcihjlaa
