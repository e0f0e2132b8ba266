/- Package rmap: Drop. -/
import Derived.Test.YtdnfjpelhiniaaaRmc
namespace Go.Proofs.Ytdnfjpelhiniaaa
open Go.RowKit Mf

def dropE (u : Int → Plc → Bool) (k : Int) (p : Plc) : Int := if u k p then 0 else 23
def dropU (u : Int → Plc → Bool) (k : Int) (p : Plc) : Int → Plc → Bool := fun j q => if j = k ∧ q = p then false else u j q

theorem imap_only {S : Nat → Prop} {w w' : World} {b n : Nat} {f : Plc → Option Bool} (h : IMap w b n f) (ho : Only S w w') (hb : ¬ S b) : IMap w' b n f := by
  have hlt := h.lt
  obtain ⟨D, ⟨es, clock, hh, r1⟩, r⟩ := h
  exact ⟨D, ⟨es, clock, (ho.block b hlt hb).trans hh, r1⟩, r⟩

section
variable {w : World} {W c mb N : Nat} {F : Int → Option Nat} {u : Int → Plc → Bool}

/-- A use less. -/
theorem Rm0.cut (h : Rm0 w W c mb N F u) {k : Int} {b : Nat} (hk : F k = some b) (p : Plc) (ty : TypeId) :
    ∃ w', (Builtin.delete_ #[52, 31] ty #[.map (some b), .agg #[.int .i64 p.1.1, .int .u64 p.1.2]]).run Try.prog w = .ok (.tuple #[]) w' ∧ Rm0 w' W c mb N F (dropU u k p) ∧ Only (fun g => g = b) w w' := by
  obtain ⟨w', hr, hm, ht⟩ := (h.inn k b hk).drop keyedP (t := 52) Try.underlying52 p ty
  have ho : Only (fun g => g = b) w w' := (Only.refl _ w).turned ht (.inl rfl)
  have hne := h.ne k b hk
  refine ⟨w', hr, ⟨h.blk.only ho (fun e => hne.2 e.symm), h.out.only ho (fun e => hne.1 e.symm), fun j b' hj => ?_, fun j hj q => ?_, h.inj, h.ne, h.cm, h.lo⟩, ho⟩
  · by_cases e : j = k
    · subst e
      rw [hk] at hj
      cases hj
      have e2 : (fun q => if q = p then none else usF (u j) q) = usF (dropU u j p j) := by
        funext q
        unfold usF dropU
        by_cases e3 : q = p <;> simp [e3]
      rw [← e2]
      exact hm
    · have hb : b' ≠ b := fun e2 => e (h.inj j k b (by rw [hj, e2]) hk)
      have e2 : usF (u j) = usF (dropU u k p j) := by
        funext q
        unfold usF dropU
        simp [e]
      rw [← e2]
      exact imap_only (h.inn j b' hj) ho hb
  · unfold dropU
    have := h.non j hj q
    simp [this]

/-- A frame's map, empty, taken out. -/
theorem Rm0.rem (h : Rm0 w W c mb N F u) {k : Int} (hw : (Lit.int .i64 k).wf = true) (hu : ∀ p, u k p = false) (ty : TypeId) :
    ∃ w', (Builtin.delete_ #[49, 3] ty #[.map (some mb), .int .i64 k]).run Try.prog w = .ok (.tuple #[]) w' ∧ Rm0 w' W c mb N (fun j => if j = k then none else F j) u ∧ Only (fun g => g = mb) w w' := by
  obtain ⟨w', hr, hm, ht⟩ := h.out.drop keyed3 Try.underlying3 (t := 49) Try.underlying49 hw ty
  have ho : Only (fun g => g = mb) w w' := (Only.refl _ _).turned ht (.inl rfl)
  have sub : ∀ j b', (if j = k then none else F j) = some b' → F j = some b' := fun j b' hj => by
    by_cases e : j = k
    · rw [if_pos e] at hj; cases hj
    · rw [if_neg e] at hj; exact hj
  refine ⟨w', hr, ⟨h.blk.only ho h.cm, hm, fun j b' hj => imap_only (h.inn j b' (sub j b' hj)) ho (h.ne j b' (sub j b' hj)).1, fun j hj q => ?_, fun j j' b' hj hj' => h.inj j j' b' (sub j b' hj) (sub j' b' hj'), fun j b' hj => h.ne j b' (sub j b' hj), h.cm, h.lo.1, h.lo.2.1, fun j b' hj => h.lo.2.2 j b' (sub j b' hj)⟩, ho⟩
  by_cases e : j = k
  · rw [e]; exact hu q
  · rw [if_neg e] at hj; exact h.non j hj q

/-- How many uses a frame has. -/
theorem Rm0.len (h : Rm0 w W c mb N F u) {k : Int} {b : Nat} (hk : F k = some b) : ∃ m : Nat, (m = 0 ↔ ∀ p, u k p = false) ∧ ∀ ty, (Builtin.len_ #[52] ty #[.map (some b)]).run Try.prog w = .ok (.int .i64 (m : Int)) w := by
  obtain ⟨ks, _, h2, _, h3⟩ := (h.inn k b hk).keys keyedP (t := 52) Try.underlying52
  refine ⟨ks.length, ?_, h3⟩
  rw [List.length_eq_zero_iff]
  constructor
  · intro e p
    cases hu : u k p
    · rfl
    · have := (h2 p).2 (by unfold usF; rw [hu]; rfl)
      rw [e] at this
      cases this
  · intro hu
    rw [List.eq_nil_iff_forall_not_mem]
    intro p hp
    have := (h2 p).1 hp
    unfold usF at this
    rw [hu p] at this
    cases this

set_option maxRecDepth 100000 in
set_option maxHeartbeats 4000000 in
theorem mdrop (h : RmAt w W c mb N F u) (k : Int) (hk : (Lit.int .i64 k).wf = true) (p : Plc) :
    Calls Try.prog 9 #[.pointer (some ⟨c, 0, none⟩), .int .i64 k, .agg #[.int .i64 p.1.1, .int .u64 p.1.2]] w fun e w' => e = .returned (.int .i64 (dropE u k p)) ∧ RmTo w w' W c mb N F (dropU u k p) := by
  have hb := (Below.refl w.heap.size w).alloc (Nat.le_refl _) (.cells #[.int .i64 p.1.1, .int .u64 p.1.2] 31)
  unfold dropE
  have HA := Lib.hid (h.below hb)
  have HB := Lib.hid hb
  have e0 := ((Blk.new w 31 #[.int .i64 p.1.1, .int .u64 p.1.2]).cell 0).trans rfl
  have e1 := ((Blk.new w 31 #[.int .i64 p.1.1, .int .u64 p.1.2]).cell 1).trans rfl
  have HG := Lib.hid (Blk.new w 31 #[.int .i64 p.1.1, .int .u64 p.1.2])
  have HH := Lib.hid h
  have CH := mhas HA.out.r k hk p
  clear h hb
  cases hu : u k p
  · rw [hu] at CH
    rw [if_neg (by decide)]
    have hsame : dropU u k p = u := by
      funext j q
      unfold dropU
      by_cases e : j = k ∧ q = p
      · rw [if_pos e, e.1, e.2, hu]
      · rw [if_neg e]
    rw [hsame]
    clear hsame hu
    go_enter Try.func9, Try.ntmps9
    go_wp2_with fail
    refine CH.mono ?_; rintro e w1 ⟨rfl, hb1⟩
    have HS := Lib.hid (RmTo.same HH.out (HB.out.trans (hb1.mono HB.out.size)) (Nat.le_refl N))
    clear hb1 HA HB HG CH
    go_wp2
    go_ret
    exact ⟨rfl, HS.out⟩
  · rw [hu] at CH
    rw [if_pos rfl]
    obtain ⟨b, hF⟩ : ∃ b, F k = some b := by
      cases hF : F k with
      | some b => exact ⟨b, rfl⟩
      | none => rw [HH.out.r.non k hF p] at hu; cases hu
    have HFK := Lib.hid hF
    clear hu hF
    go_enter Try.func9, Try.ntmps9
    go_wp2_with fail
    refine CH.mono ?_; rintro e w1 ⟨rfl, hb1⟩
    have H3 := Lib.hid (HA.out.below hb1).r
    have HB1 := Lib.hid (HB.out.trans (hb1.mono HB.out.size))
    have HG3 := Lib.hid (HG.out.below hb1 HG.out.lt)
    clear hb1 e0 e1 HA HB HG CH
    go_wp2_with fail
    have H3d : Rm0 w1.drew W c mb N F u := H3.out.drewN 1
    obtain ⟨w4, hr4, h4, ho4⟩ := H3d.cut HFK.out p 0
    have H4 := Lib.hid h4
    have HO4 := Lib.hid (show Only (RmS mb F) w w4 from (only_fresh HB1.out.drew).trans (ho4.mono (fun g e => .inr ⟨k, by rw [e]; exact HFK.out⟩)))
    have d0 : (w1.drew).cell? ⟨c, 0, none⟩ = some (.map (some mb)) := (H3.out.blk.cell 0).trans rfl
    have l1 := H3d.look hk
    rw [HFK.out] at l1
    have e0 : (w1.drew).cell? ⟨w.heap.size, 0, none⟩ = some (.int .i64 p.1.1) := (HG3.out.cell 0).trans rfl
    have e1 : (w1.drew).cell? ⟨w.heap.size, 1, none⟩ = some (.int .u64 p.1.2) := (HG3.out.cell 1).trans rfl
    clear h4 ho4 H3 HG3 H3d
    refine beginZ (z := 7) (S := (fun w' => w' = w1.drew)) (by kernel_rfl) ?_ (fun hHeld => ?_)
    · rfl
    generalize w1.drew = wd at *
    ((refine takeYZ 6 (by kernel_rfl) (v := ?_) rfl (by kernel_rfl) (by kernel_rfl) (by kernel_rfl) (fun _ _ _ h => h) (by rfl) (by assumption) ?_ ?_; rotate_left; · (intro w hSw; (try dsimp only at hSw); go_simp; (first | done | with_reducible rfl))))
    (try simp only [Act.put, List.setIfInBounds_toArray, List.set_cons_zero, List.set_cons_succ])
    refine readyZ (rs := [0, 4]) (by kernel_rfl) (by simp) ?_
    refine consZ 0 rfl (by rfl) (fun K hK => ?_) (consZ 4 rfl (by rfl) (fun K hK => ?_) (nilZ))
    · go_simp
      refine hK.out _ _ hHeld (fun hHeld => ?_)
      clear hK K
      refine readyZ (rs := [1, 4]) (by kernel_rfl) (by simp) ?_
      refine consZ 1 rfl (by rfl) (fun K hK => ?_) (consZ 4 rfl (by rfl) (fun K hK => ?_) (nilZ))
      · go_simp
        refine hK.out _ _ hHeld (fun hHeld => ?_)
        clear hK K
        refine readyZ (rs := [2, 4]) (by kernel_rfl) (by simp) ?_
        refine consZ 2 rfl (by rfl) (fun K hK => ?_) (consZ 4 rfl (by rfl) (fun K hK => ?_) (nilZ))
        · go_simp
          refine hK.out _ _ hHeld (fun hHeld => ?_)
          clear hK K
          refine readyZ (rs := [3, 4]) (by kernel_rfl) (by simp) ?_
          refine consZ 3 rfl (by rfl) (fun K hK => ?_) (consZ 4 rfl (by rfl) (fun K hK => ?_) (nilZ))
          · go_simp
            refine hK.out _ _ hHeld (fun hHeld => ?_)
            clear hK K
            refine stepZ 4 rfl (by kernel_rfl) (by rfl) (fun K hK => ?_)
            go_simp
            refine hK.out _ _ hHeld (fun hHeld => ?_)
            clear hK K
            ((refine takeYZ 5 (by kernel_rfl) (v := ?_) rfl (by kernel_rfl) (by kernel_rfl) (by kernel_rfl) (fun _ _ _ h => h) (by rfl) (by assumption) ?_ ?_; rotate_left; · (intro w hSw; (try dsimp only at hSw); go_simp; (first | done | with_reducible rfl))))
            (try simp only [Act.put, List.setIfInBounds_toArray, List.set_cons_zero, List.set_cons_succ])
            refine endZ rfl (by kernel_rfl) (by kernel_rfl) (by rfl) (fun K hK => ?_)
            go_simp
            refine hK.out _ _ ?_
            clear hK K hHeld
            clear d0 l1 e0 e1 hr4
            have d0 : w4.cell? ⟨c, 0, none⟩ = some (.map (some mb)) := (H4.out.blk.cell 0).trans rfl
            have l1 := H4.out.look hk
            rw [HFK.out] at l1
            obtain ⟨m, hm, hlen⟩ := H4.out.len HFK.out
            by_cases hm0 : m = 0
            · have j0 : ((m : Int) == 0) = true := by simp; exact hm0
              have j0' : (m == 0) = true := by simp; exact hm0
              obtain ⟨w5, hr5, h5, ho5⟩ := H4.out.rem hk (hm.1 hm0) 0
              have H5 := Lib.hid h5
              have HO5 := Lib.hid (show Only (RmS mb F) w w5 from HO4.out.trans (ho5.mono (fun g e => .inl e)))
              clear hm hm0 h5 ho5
              go_wp2
              go_ret
              refine ⟨rfl, _, ⟨H5.out, fun j b' hj => ?_⟩, HO5.out, fun j b' hj => ?_⟩
              · by_cases e : j = k
                · simp only [if_pos e] at hj; cases hj
                · simp only [if_neg e] at hj
                  obtain ⟨q, hq⟩ := HH.out.som j b' hj
                  exact ⟨q, by unfold dropU; simp [e, hq]⟩
              · by_cases e : j = k
                · simp only [if_pos e] at hj; cases hj
                · simp only [if_neg e] at hj
                  exact .inl ⟨j, hj⟩
            · have j0 : ((m : Int) == 0) = false := by simp; omega
              have j0' : (m == 0) = false := by simp; exact hm0
              have HNE := Lib.hid (show ∃ q, dropU u k p k q = true from by
                apply Classical.byContradiction
                intro hn
                exact hm0 (hm.2 fun q => by
                  cases hq : dropU u k p k q
                  · rfl
                  · exact absurd ⟨q, hq⟩ hn))
              clear hm hm0
              go_wp2
              go_ret
              refine ⟨rfl, F, ⟨H4.out, fun j b' hj => ?_⟩, HO4.out, fun j b' hj => .inl ⟨j, hj⟩⟩
              by_cases e : j = k
              · rw [e]; exact HNE.out
              · obtain ⟨q, hq⟩ := HH.out.som j b' hj
                exact ⟨q, by unfold dropU; simp [e, hq]⟩
          · go_simp
            refine hK.out _ _ hHeld (fun hHeld => ?_)
            clear hK K
            refine stepZ 3 rfl (by kernel_rfl) (by rfl) (fun K hK => ?_)
            go_simp
            refine hK.out _ _ hHeld (fun hHeld => ?_)
            clear hK K
            ((refine takeYZ 5 (by kernel_rfl) (v := ?_) rfl (by kernel_rfl) (by kernel_rfl) (by kernel_rfl) (fun _ _ _ h => h) (by rfl) (by assumption) ?_ ?_; rotate_left; · (intro w hSw; (try dsimp only at hSw); go_simp; (first | done | with_reducible rfl))))
            (try simp only [Act.put, List.setIfInBounds_toArray, List.set_cons_zero, List.set_cons_succ])
            refine endZ rfl (by kernel_rfl) (by kernel_rfl) (by rfl) (fun K hK => ?_)
            go_simp
            refine hK.out _ _ ?_
            clear hK K hHeld
            clear d0 l1 e0 e1 hr4
            have d0 : w4.cell? ⟨c, 0, none⟩ = some (.map (some mb)) := (H4.out.blk.cell 0).trans rfl
            have l1 := H4.out.look hk
            rw [HFK.out] at l1
            obtain ⟨m, hm, hlen⟩ := H4.out.len HFK.out
            by_cases hm0 : m = 0
            · have j0 : ((m : Int) == 0) = true := by simp; exact hm0
              have j0' : (m == 0) = true := by simp; exact hm0
              obtain ⟨w5, hr5, h5, ho5⟩ := H4.out.rem hk (hm.1 hm0) 0
              have H5 := Lib.hid h5
              have HO5 := Lib.hid (show Only (RmS mb F) w w5 from HO4.out.trans (ho5.mono (fun g e => .inl e)))
              clear hm hm0 h5 ho5
              go_wp2
              go_ret
              refine ⟨rfl, _, ⟨H5.out, fun j b' hj => ?_⟩, HO5.out, fun j b' hj => ?_⟩
              · by_cases e : j = k
                · simp only [if_pos e] at hj; cases hj
                · simp only [if_neg e] at hj
                  obtain ⟨q, hq⟩ := HH.out.som j b' hj
                  exact ⟨q, by unfold dropU; simp [e, hq]⟩
              · by_cases e : j = k
                · simp only [if_pos e] at hj; cases hj
                · simp only [if_neg e] at hj
                  exact .inl ⟨j, hj⟩
            · have j0 : ((m : Int) == 0) = false := by simp; omega
              have j0' : (m == 0) = false := by simp; exact hm0
              have HNE := Lib.hid (show ∃ q, dropU u k p k q = true from by
                apply Classical.byContradiction
                intro hn
                exact hm0 (hm.2 fun q => by
                  cases hq : dropU u k p k q
                  · rfl
                  · exact absurd ⟨q, hq⟩ hn))
              clear hm hm0
              go_wp2
              go_ret
              refine ⟨rfl, F, ⟨H4.out, fun j b' hj => ?_⟩, HO4.out, fun j b' hj => .inl ⟨j, hj⟩⟩
              by_cases e : j = k
              · rw [e]; exact HNE.out
              · obtain ⟨q, hq⟩ := HH.out.som j b' hj
                exact ⟨q, by unfold dropU; simp [e, hq]⟩
        · go_simp
          refine hK.out _ _ hHeld (fun hHeld => ?_)
          clear hK K
          refine stepZ 2 rfl (by kernel_rfl) (by rfl) (fun K hK => ?_)
          go_simp
          refine hK.out _ _ hHeld (fun hHeld => ?_)
          clear hK K
          refine stepZ 3 rfl (by kernel_rfl) (by rfl) (fun K hK => ?_)
          go_simp
          refine hK.out _ _ hHeld (fun hHeld => ?_)
          clear hK K
          ((refine takeYZ 5 (by kernel_rfl) (v := ?_) rfl (by kernel_rfl) (by kernel_rfl) (by kernel_rfl) (fun _ _ _ h => h) (by rfl) (by assumption) ?_ ?_; rotate_left; · (intro w hSw; (try dsimp only at hSw); go_simp; (first | done | with_reducible rfl))))
          (try simp only [Act.put, List.setIfInBounds_toArray, List.set_cons_zero, List.set_cons_succ])
          refine endZ rfl (by kernel_rfl) (by kernel_rfl) (by rfl) (fun K hK => ?_)
          go_simp
          refine hK.out _ _ ?_
          clear hK K hHeld
          clear d0 l1 e0 e1 hr4
          have d0 : w4.cell? ⟨c, 0, none⟩ = some (.map (some mb)) := (H4.out.blk.cell 0).trans rfl
          have l1 := H4.out.look hk
          rw [HFK.out] at l1
          obtain ⟨m, hm, hlen⟩ := H4.out.len HFK.out
          by_cases hm0 : m = 0
          · have j0 : ((m : Int) == 0) = true := by simp; exact hm0
            have j0' : (m == 0) = true := by simp; exact hm0
            obtain ⟨w5, hr5, h5, ho5⟩ := H4.out.rem hk (hm.1 hm0) 0
            have H5 := Lib.hid h5
            have HO5 := Lib.hid (show Only (RmS mb F) w w5 from HO4.out.trans (ho5.mono (fun g e => .inl e)))
            clear hm hm0 h5 ho5
            go_wp2
            go_ret
            refine ⟨rfl, _, ⟨H5.out, fun j b' hj => ?_⟩, HO5.out, fun j b' hj => ?_⟩
            · by_cases e : j = k
              · simp only [if_pos e] at hj; cases hj
              · simp only [if_neg e] at hj
                obtain ⟨q, hq⟩ := HH.out.som j b' hj
                exact ⟨q, by unfold dropU; simp [e, hq]⟩
            · by_cases e : j = k
              · simp only [if_pos e] at hj; cases hj
              · simp only [if_neg e] at hj
                exact .inl ⟨j, hj⟩
          · have j0 : ((m : Int) == 0) = false := by simp; omega
            have j0' : (m == 0) = false := by simp; exact hm0
            have HNE := Lib.hid (show ∃ q, dropU u k p k q = true from by
              apply Classical.byContradiction
              intro hn
              exact hm0 (hm.2 fun q => by
                cases hq : dropU u k p k q
                · rfl
                · exact absurd ⟨q, hq⟩ hn))
            clear hm hm0
            go_wp2
            go_ret
            refine ⟨rfl, F, ⟨H4.out, fun j b' hj => ?_⟩, HO4.out, fun j b' hj => .inl ⟨j, hj⟩⟩
            by_cases e : j = k
            · rw [e]; exact HNE.out
            · obtain ⟨q, hq⟩ := HH.out.som j b' hj
              exact ⟨q, by unfold dropU; simp [e, hq]⟩
      · go_simp
        refine hK.out _ _ hHeld (fun hHeld => ?_)
        clear hK K
        refine stepZ 1 rfl (by kernel_rfl) (by rfl) (fun K hK => ?_)
        go_simp
        refine hK.out _ _ hHeld (fun hHeld => ?_)
        clear hK K
        refine stepZ 2 rfl (by kernel_rfl) (by rfl) (fun K hK => ?_)
        go_simp
        refine hK.out _ _ hHeld (fun hHeld => ?_)
        clear hK K
        refine stepZ 3 rfl (by kernel_rfl) (by rfl) (fun K hK => ?_)
        go_simp
        refine hK.out _ _ hHeld (fun hHeld => ?_)
        clear hK K
        ((refine takeYZ 5 (by kernel_rfl) (v := ?_) rfl (by kernel_rfl) (by kernel_rfl) (by kernel_rfl) (fun _ _ _ h => h) (by rfl) (by assumption) ?_ ?_; rotate_left; · (intro w hSw; (try dsimp only at hSw); go_simp; (first | done | with_reducible rfl))))
        (try simp only [Act.put, List.setIfInBounds_toArray, List.set_cons_zero, List.set_cons_succ])
        refine endZ rfl (by kernel_rfl) (by kernel_rfl) (by rfl) (fun K hK => ?_)
        go_simp
        refine hK.out _ _ ?_
        clear hK K hHeld
        clear d0 l1 e0 e1 hr4
        have d0 : w4.cell? ⟨c, 0, none⟩ = some (.map (some mb)) := (H4.out.blk.cell 0).trans rfl
        have l1 := H4.out.look hk
        rw [HFK.out] at l1
        obtain ⟨m, hm, hlen⟩ := H4.out.len HFK.out
        by_cases hm0 : m = 0
        · have j0 : ((m : Int) == 0) = true := by simp; exact hm0
          have j0' : (m == 0) = true := by simp; exact hm0
          obtain ⟨w5, hr5, h5, ho5⟩ := H4.out.rem hk (hm.1 hm0) 0
          have H5 := Lib.hid h5
          have HO5 := Lib.hid (show Only (RmS mb F) w w5 from HO4.out.trans (ho5.mono (fun g e => .inl e)))
          clear hm hm0 h5 ho5
          go_wp2
          go_ret
          refine ⟨rfl, _, ⟨H5.out, fun j b' hj => ?_⟩, HO5.out, fun j b' hj => ?_⟩
          · by_cases e : j = k
            · simp only [if_pos e] at hj; cases hj
            · simp only [if_neg e] at hj
              obtain ⟨q, hq⟩ := HH.out.som j b' hj
              exact ⟨q, by unfold dropU; simp [e, hq]⟩
          · by_cases e : j = k
            · simp only [if_pos e] at hj; cases hj
            · simp only [if_neg e] at hj
              exact .inl ⟨j, hj⟩
        · have j0 : ((m : Int) == 0) = false := by simp; omega
          have j0' : (m == 0) = false := by simp; exact hm0
          have HNE := Lib.hid (show ∃ q, dropU u k p k q = true from by
            apply Classical.byContradiction
            intro hn
            exact hm0 (hm.2 fun q => by
              cases hq : dropU u k p k q
              · rfl
              · exact absurd ⟨q, hq⟩ hn))
          clear hm hm0
          go_wp2
          go_ret
          refine ⟨rfl, F, ⟨H4.out, fun j b' hj => ?_⟩, HO4.out, fun j b' hj => .inl ⟨j, hj⟩⟩
          by_cases e : j = k
          · rw [e]; exact HNE.out
          · obtain ⟨q, hq⟩ := HH.out.som j b' hj
            exact ⟨q, by unfold dropU; simp [e, hq]⟩
    · go_simp
      refine hK.out _ _ hHeld (fun hHeld => ?_)
      clear hK K
      refine stepZ 0 rfl (by kernel_rfl) (by rfl) (fun K hK => ?_)
      go_simp
      refine hK.out _ _ hHeld (fun hHeld => ?_)
      clear hK K
      refine stepZ 1 rfl (by kernel_rfl) (by rfl) (fun K hK => ?_)
      go_simp
      refine hK.out _ _ hHeld (fun hHeld => ?_)
      clear hK K
      refine stepZ 2 rfl (by kernel_rfl) (by rfl) (fun K hK => ?_)
      go_simp
      refine hK.out _ _ hHeld (fun hHeld => ?_)
      clear hK K
      refine stepZ 3 rfl (by kernel_rfl) (by rfl) (fun K hK => ?_)
      go_simp
      refine hK.out _ _ hHeld (fun hHeld => ?_)
      clear hK K
      ((refine takeYZ 5 (by kernel_rfl) (v := ?_) rfl (by kernel_rfl) (by kernel_rfl) (by kernel_rfl) (fun _ _ _ h => h) (by rfl) (by assumption) ?_ ?_; rotate_left; · (intro w hSw; (try dsimp only at hSw); go_simp; (first | done | with_reducible rfl))))
      (try simp only [Act.put, List.setIfInBounds_toArray, List.set_cons_zero, List.set_cons_succ])
      refine endZ rfl (by kernel_rfl) (by kernel_rfl) (by rfl) (fun K hK => ?_)
      go_simp
      refine hK.out _ _ ?_
      clear hK K hHeld
      clear d0 l1 e0 e1 hr4
      have d0 : w4.cell? ⟨c, 0, none⟩ = some (.map (some mb)) := (H4.out.blk.cell 0).trans rfl
      have l1 := H4.out.look hk
      rw [HFK.out] at l1
      obtain ⟨m, hm, hlen⟩ := H4.out.len HFK.out
      by_cases hm0 : m = 0
      · have j0 : ((m : Int) == 0) = true := by simp; exact hm0
        have j0' : (m == 0) = true := by simp; exact hm0
        obtain ⟨w5, hr5, h5, ho5⟩ := H4.out.rem hk (hm.1 hm0) 0
        have H5 := Lib.hid h5
        have HO5 := Lib.hid (show Only (RmS mb F) w w5 from HO4.out.trans (ho5.mono (fun g e => .inl e)))
        clear hm hm0 h5 ho5
        go_wp2
        go_ret
        refine ⟨rfl, _, ⟨H5.out, fun j b' hj => ?_⟩, HO5.out, fun j b' hj => ?_⟩
        · by_cases e : j = k
          · simp only [if_pos e] at hj; cases hj
          · simp only [if_neg e] at hj
            obtain ⟨q, hq⟩ := HH.out.som j b' hj
            exact ⟨q, by unfold dropU; simp [e, hq]⟩
        · by_cases e : j = k
          · simp only [if_pos e] at hj; cases hj
          · simp only [if_neg e] at hj
            exact .inl ⟨j, hj⟩
      · have j0 : ((m : Int) == 0) = false := by simp; omega
        have j0' : (m == 0) = false := by simp; exact hm0
        have HNE := Lib.hid (show ∃ q, dropU u k p k q = true from by
          apply Classical.byContradiction
          intro hn
          exact hm0 (hm.2 fun q => by
            cases hq : dropU u k p k q
            · rfl
            · exact absurd ⟨q, hq⟩ hn))
        clear hm hm0
        go_wp2
        go_ret
        refine ⟨rfl, F, ⟨H4.out, fun j b' hj => ?_⟩, HO4.out, fun j b' hj => .inl ⟨j, hj⟩⟩
        by_cases e : j = k
        · rw [e]; exact HNE.out
        · obtain ⟨q, hq⟩ := HH.out.som j b' hj
          exact ⟨q, by unfold dropU; simp [e, hq]⟩
end
end Go.Proofs.Ytdnfjpelhiniaaa
