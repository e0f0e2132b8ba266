/- Package index: the order of Alike; the library's sort of groups; slices.Clone. -/
import Derived.Test.YtkpngkdkkcadfaaIxf
import Derived.Test.YtkpngkdkkcadfaaSr1
import Derived.Deep.QuietTactic
import Derived.BigQuiet
namespace Go.Proofs.Ytkpngkdkkcadfaa
open Go Go.Sort Go.Proofs Go.RowKit Go.Shelf
shelf_lay_g SlLaysF.n6 Slsf 6 at Try 42 as Try.sortGroups
shelf_lay_g SlLaysF0.n6 Slsf 6 at Try 42 as Try.sortGroups0

/-- A group: its block, its frames, its room. -/
abbrev Gr := Nat × List Int × Nat
def uv (u : Gr) : Value := .slice (some ⟨u.1, 0, none⟩) u.2.1.length u.2.2
def hd (u : Gr) : Int := u.2.1.headD 0
theorem alike_cmp {x y : Gr} {W : World} (hx : 0 < x.2.1.length) (hy : 0 < y.2.1.length) (cx : W.cell? ⟨x.1, 0, none⟩ = some (.int .i64 (hd x))) (cy : W.cell? ⟨y.1, 0, none⟩ = some (.int .i64 (hd y))) (bx : 0 ≤ hd x ∧ hd x < 1000) (by_ : 0 ≤ hd y ∧ hd y < 1000) :
    Calls Try.prog 43 #[uv x, uv y] W fun e w' => e = .returned (.int .i64 (hd x - hd y)) ∧ ∃ q, w' = W.drewN q := by
  unfold uv
  generalize hd x = a at *
  generalize hd y = b at *
  obtain ⟨n, hn⟩ : ∃ n, x.2.1.length = n := ⟨_, rfl⟩
  obtain ⟨m, hm⟩ : ∃ m, y.2.1.length = m := ⟨_, rfl⟩
  rw [hn] at hx ⊢
  rw [hm] at hy ⊢
  clear hn hm
  have hx2 : (0 : Int) < (n : Int) := by omega
  have hy2 : (0 : Int) < (m : Int) := by omega
  go_enter Try.func43, Try.ntmps43
  go_wp2_with fail
  go_quiet (fail)
  go_wp2
  go_ret
  exact ⟨rfl, _, rfl⟩

/-- Groups that lie in memory. -/
def GrAt (w : World) (v : Value) (us : List Gr) : Prop := ∀ u ∈ us, 0 < u.2.1.length ∧ some u.1 ≠ v.ownBlock ∧ u.1 < w.heap.size ∧ w.cell? ⟨u.1, 0, none⟩ = some (.int .i64 (hd u)) ∧ 0 ≤ hd u ∧ hd u < 1000
theorem sortG (base : Nat) (v : Value) (us : List Gr) (w : World) (hown : w.ownsRow base 48 1 v us.length (us.map uv)) (hat : GrAt w v us) (hsz : us.length < 4611686018427387904) :
    Calls Try.prog 42 #[v, .func (.func 43) #[] #[]] w fun x w' => x = .returned (.tuple #[]) ∧ ∃ ts : List Gr, ts.Perm us ∧ ts.Pairwise (fun a b => hd a ≤ hd b) ∧ w'.ownsRow base 48 1 v us.length (ts.map uv) ∧ w.grownBy w' v.ownBlock := by
  rcases hown.2 with ⟨rfl, h0⟩ | ⟨g, cap, cur, rfl, hg, hh, h1, h2, h3, h4⟩
  · have e0 : us = [] := List.eq_nil_of_length_eq_zero h0
    subst e0
    refine (AnyF.slices_SortFunc_none Try.sortGroups0 none 0 _ w).mono ?_
    rintro x w' ⟨rfl, rfl⟩
    exact ⟨rfl, [], List.Perm.refl _, List.Pairwise.nil, hown, rfl, rfl, rfl, Nat.le_refl _, fun _ _ _ => rfl⟩
  · rcases Nat.eq_zero_or_pos us.length with hz | hpos
    · have e0 : us = [] := List.eq_nil_of_length_eq_zero hz
      subst e0
      refine (AnyF.slices_SortFunc_none Try.sortGroups0 (some ⟨g, 0, none⟩) cap _ w).mono ?_
      rintro x w' ⟨rfl, rfl⟩
      exact ⟨rfl, [], List.Perm.refl _, List.Pairwise.nil, hown, rfl, rfl, rfl, Nat.le_refl _, fun _ _ _ => rfl⟩
    · obtain ⟨m, hm⟩ : ∃ m, us.length = m := ⟨_, rfl⟩
      haveI : Inhabited (Fin us.length) := ⟨⟨0, hpos⟩⟩
      have eg : ∀ args w, (callFunc 43 args).run Try.prog w = .ok (.enter 43 args) w := enters_of Try.func43 (by kernel_rfl) rfl
      have hb := (Array.getElem?_eq_some_iff.1 hh).1
      let enc : Fin us.length → Value := fun i => uv us[i]
      let cf : Fin us.length → Fin us.length → Int := fun i j => hd us[i] - hd us[j]
      have hO : SWO (ltOf cf) := ⟨fun x => by simp [ltOf, cf], fun x y z h1 h2 => by simp [ltOf, cf] at *; omega, fun x y z h1 h2 => by simp [ltOf, cf] at *; omega⟩
      have hds : (List.finRange us.length).toArray.size = us.length := by simp
      have hmap : (List.finRange us.length).map enc = us.map uv := by
        apply List.ext_getElem
        · simp
        · intro i h1 h2; simp [enc]
      have hcmp : CmpLays1 Try.prog 43 #[] enc cf g 0 (List.finRange us.length).toArray.size w := fun k os dk _ x y => by
        have hgr : w.grownBy (sortWorld enc w g 0 k dk os) (some g) := grownBy_sorted1 dk
        have cell : ∀ u ∈ us, (sortWorld enc w g 0 k dk os).cell? ⟨u.1, 0, none⟩ = some (.int .i64 (hd u)) := fun u hu => by
          obtain ⟨_, a2, a3, a4, _⟩ := hat u hu
          exact (World.cell?_of_block (hgr.block u.1 a3 a2)).trans a4
        have mx : us[x] ∈ us := List.getElem_mem _
        have my : us[y] ∈ us := List.getElem_mem _
        refine (alike_cmp (hat _ mx).1 (hat _ my).1 (cell _ mx) (cell _ my) (hat _ mx).2.2.2.2 (hat _ my).2.2.2.2).mono ?_
        rintro e w' ⟨rfl, q, rfl⟩
        exact ⟨rfl, q, #[], by rw [grow_empty]⟩
      have hcon := Any.slices_SortFunc Try.sortGroups enc (fun _ => rfl) cf hO 43 #[] g 0 cap (List.finRange us.length).toArray w eg hcmp (holds_of_block1 hh (by rw [hmap, ← h4]; simp)) hb (by rw [hds]; exact hsz)
      rw [hds] at hcon
      refine hcon.mono ?_
      rintro x w' ⟨rfl, d', n, os, hp, hs, rfl⟩
      obtain ⟨hp1, _, hp3⟩ := hp
      have hdl : d'.toList.length = us.length := by rw [Array.length_toList, hp1, hds]
      have hpm : d'.toList.Perm (List.finRange us.length) := by
        have := hp3
        simp at this
        rw [List.take_of_length_le (by omega), List.take_of_length_le (by simp)] at this
        exact this
      have ed : d'.toList.toArray = d' := Array.toArray_toList
      have hfin : (List.finRange us.length).map (fun i => us[i]) = us := by
        apply List.ext_getElem
        · simp
        · intro i h1 h2; simp
      refine ⟨rfl, d'.toList.map fun i => us[i], by
        have := hpm.map (fun i : Fin us.length => us[i])
        rw [hfin] at this
        exact this, ?_, ?_, grownBy_sorted1 _⟩
      · rw [List.pairwise_map, List.pairwise_iff_getElem]
        intro i j hi hj hij
        have h9 := hs i j (Nat.zero_le _) hij (by omega)
        rw [getElem!_pos d' j (by simpa using hj), getElem!_pos d' i (by simpa using hi)] at h9
        simp [ltOf, cf] at h9
        simpa using h9
      · have := ownsRow_sorted1 (enc := enc) (ts := d'.toList) (ss := List.finRange us.length) (n := n) (os := os) (by rw [hdl]; simp) hg hh (by simpa using h1) h2 h3
        rw [ed] at this
        simp only [List.length_finRange] at this
        rw [List.map_map]
        exact this
end Go.Proofs.Ytkpngkdkkcadfaa
