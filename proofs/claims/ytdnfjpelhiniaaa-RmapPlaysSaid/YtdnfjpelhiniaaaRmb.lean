/- Package rmap in memory: New, Has. -/
import Derived.Test.YtdnfjpelhiniaaaRma
import Derived.Test.YtdnfjpelhiniaaaQui
import Derived.BigQuiet
import Derived.Deep.QuietTactic
import Derived.Deep.Draws
import Derived.Deep.DeepCutAuto
import Derived.Deep.CutBlock
namespace Go.Proofs.Ytdnfjpelhiniaaa
open Go.RowKit Mf

abbrev OMap := MapF Try.prog 3 .i64 refC
abbrev IMap := MapG Try.prog 31 plcC useC
def usF (u : Plc → Bool) : Plc → Option Bool := fun p => if u p then some true else none

/-- A map of uses in memory; a frame's map may be empty. -/
structure Rm0 (w : World) (W c mb N : Nat) (F : Int → Option Nat) (u : Int → Plc → Bool) : Prop where
  blk : Blk w c 51 #[.map (some mb)]
  out : OMap w mb N F
  inn : ∀ k b, F k = some b → IMap w b N (usF (u k))
  non : ∀ k, F k = none → ∀ p, u k p = false
  inj : ∀ k k' b, F k = some b → F k' = some b → k = k'
  ne : ∀ k b, F k = some b → b ≠ mb ∧ b ≠ c
  cm : c ≠ mb
  lo : W ≤ c ∧ W ≤ mb ∧ ∀ k b, F k = some b → W ≤ b
/-- A map of uses in memory. -/
structure RmAt (w : World) (W c mb N : Nat) (F : Int → Option Nat) (u : Int → Plc → Bool) : Prop where
  r : Rm0 w W c mb N F u
  som : ∀ k b, F k = some b → ∃ p, u k p = true

section
variable {w w' : World} {W c mb N : Nat} {F : Int → Option Nat} {u : Int → Plc → Bool}
theorem Rm0.below (h : Rm0 w W c mb N F u) (hb : Below w.heap.size w w') : Rm0 w' W c mb N F u :=
  ⟨h.blk.below hb h.blk.lt, h.out.below hb h.out.lt, fun k b hk => (h.inn k b hk).below hb (h.inn k b hk).lt, h.non, h.inj, h.ne, h.cm, h.lo⟩
theorem Rm0.drewN (h : Rm0 w W c mb N F u) (q : Nat) : Rm0 (w.drewN q) W c mb N F u := h.below (below_drewN (Below.refl _ _) q)
theorem RmAt.below (h : RmAt w W c mb N F u) (hb : Below w.heap.size w w') : RmAt w' W c mb N F u := ⟨h.r.below hb, h.som⟩
theorem RmAt.drewN (h : RmAt w W c mb N F u) (q : Nat) : RmAt (w.drewN q) W c mb N F u := ⟨h.r.drewN q, h.som⟩

theorem zeroM (w : World) : (zeroValue 52).run Try.prog w = .ok (.map none) w := by kernel_rfl
theorem zeroB (w : World) : (zeroValue 4).run Try.prog w = .ok (.bool false) w := by kernel_rfl

theorem Rm0.look (h : Rm0 w W c mb N F u) {k : Int} (hk : (Lit.int .i64 k).wf = true) : (Instr.lookup 49 (.map (some mb)) (.int .i64 k) false).run Try.prog w = .ok (.map (F k)) w := by
  rw [h.out.look false keyed3 Try.underlying3 (t := 49) Try.underlying49 (zeroM w) hk]
  cases F k <;> rfl

theorem Rm0.use (h : Rm0 w W c mb N F u) (k : Int) (p : Plc) : (Instr.lookup 52 (.map (F k)) (.agg #[.int .i64 p.1.1, .int .u64 p.1.2]) false).run Try.prog w = .ok (.bool (u k p)) w := by
  cases hf : F k with
  | some b =>
    have := (h.inn k b hf).look false keyedP (t := 52) Try.underlying52 (zeroB w) p
    refine Eq.trans this ?_
    unfold usF
    cases u k p <;> rfl
  | none =>
    rw [h.non k hf p]
    exact Maps.look_nil (w := w) false keyedP Try.underlying52 (zeroB w) (plc_key p)

set_option maxRecDepth 100000 in
set_option maxHeartbeats 4000000 in
theorem mhas (h : Rm0 w W c mb N F u) (k : Int) (hk : (Lit.int .i64 k).wf = true) (p : Plc) :
    Calls Try.prog 13 #[.pointer (some ⟨c, 0, none⟩), .int .i64 k, .agg #[.int .i64 p.1.1, .int .u64 p.1.2]] w fun e w' => e = .returned (.bool (u k p)) ∧ Below w.heap.size w w' := by
  have HR := Lib.hid h
  have hb := (Below.refl w.heap.size w).alloc (Nat.le_refl _) (.cells #[.int .i64 p.1.1, .int .u64 p.1.2] 31)
  have HB := Lib.hid hb
  have HA := Lib.hid (h.below hb)
  have d0 := (h.below hb).blk.cell 0
  have e0 := (Blk.new w 31 #[.int .i64 p.1.1, .int .u64 p.1.2]).cell 0
  have e1 := (Blk.new w 31 #[.int .i64 p.1.1, .int .u64 p.1.2]).cell 1
  obtain ⟨m1, hm1⟩ : ∃ m1, F k = m1 := ⟨_, rfl⟩
  obtain ⟨b1, hb1⟩ : ∃ b1, u k p = b1 := ⟨_, rfl⟩
  have l1 : ∀ q, (Instr.lookup 49 (.map (some mb)) (.int .i64 k) false).run Try.prog ((w.alloc (.cells #[.int .i64 p.1.1, .int .u64 p.1.2] 31)).drewN q) = .ok (.map m1) ((w.alloc (.cells #[.int .i64 p.1.1, .int .u64 p.1.2] 31)).drewN q) := fun q => by
    rw [← hm1]; exact (HA.out.drewN q).look hk
  have l2 : ∀ q, (Instr.lookup 52 (.map m1) (.agg #[.int .i64 p.1.1, .int .u64 p.1.2]) false).run Try.prog ((w.alloc (.cells #[.int .i64 p.1.1, .int .u64 p.1.2] 31)).drewN q) = .ok (.bool b1) ((w.alloc (.cells #[.int .i64 p.1.1, .int .u64 p.1.2] 31)).drewN q) := fun q => by
    rw [← hb1, ← hm1]; exact (HA.out.drewN q).use k p
  rw [hb1]
  clear hm1 hb1 h hb
  obtain ⟨wa, hwa⟩ : ∃ wa, w.alloc (.cells #[.int .i64 p.1.1, .int .u64 p.1.2] 31) = wa := ⟨_, rfl⟩
  rw [hwa] at l1 l2 d0 e0 e1 HA HB
  have HWA := Lib.hid hwa
  clear hwa
  go_enter Try.func13, Try.ntmps13
  go_upto_region 1 with fail
  rw [HWA.out]
  go_quiet (fail)
  go_wp2
  go_ret
  exact ⟨rfl, below_drewN HB.out _⟩

/-- What may turn. -/
def RmS (mb : Nat) (F : Int → Option Nat) : Nat → Prop := fun g => g = mb ∨ ∃ k, F k = some g

/-- A use more, the frame's map being there. -/
theorem Rm0.put (h : Rm0 w W c mb N F u) {k : Int} {b : Nat} (hk : F k = some b) (hN : N < maxLen) (p : Plc) :
    ∃ w', (Instr.mapUpdate 52 (.map (some b)) (.agg #[.int .i64 p.1.1, .int .u64 p.1.2]) (.bool true)).run Try.prog w = .ok () w' ∧ Rm0 w' W c mb (N + 1) F (fun j q => if j = k ∧ q = p then true else u j q) ∧ Only (fun g => g = b) w w' := by
  obtain ⟨w', hr, hm, ht⟩ := (h.inn k b hk).store keyedP (t := 52) Try.underlying52 hN p true
  have ho : Only (fun g => g = b) w w' := (Only.refl _ w).turned ht (.inl rfl)
  have hne := h.ne k b hk
  refine ⟨w', hr, ⟨h.blk.only ho (fun e => hne.2 e.symm), (h.out.only ho (fun e => hne.1 e.symm)).mono (Nat.le_succ _), fun j b' hj => ?_, fun j hj q => ?_, h.inj, h.ne, h.cm, h.lo⟩, ho⟩
  · by_cases e : j = k
    · subst e
      rw [hk] at hj
      cases hj
      have e2 : (fun q => if q = p then some true else usF (u j) q) = usF (fun q => if j = j ∧ q = p then true else u j q) := by
        funext q
        unfold usF
        by_cases e3 : q = p <;> simp [e3]
      rw [← e2]
      exact hm
    · have hb : b' ≠ b := fun e2 => e (h.inj j k b (by rw [hj, e2]) hk)
      have e2 : usF (u j) = usF (fun q => if j = k ∧ q = p then true else u j q) := by
        funext q
        unfold usF
        simp [e]
      rw [← e2]
      obtain ⟨D, ⟨es, clock, hh, r1⟩, r⟩ := h.inn j b' hj
      have hlt := (h.inn j b' hj).lt
      exact MapG.mono ⟨D, ⟨es, clock, (ho.block b' hlt hb).trans hh, r1⟩, r⟩ (Nat.le_succ _)
  · have e : j ≠ k := fun e => by rw [e, hk] at hj; cases hj
    simp [e, h.non j hj q]

/-- A frame's map is laid. -/
theorem Rm0.lay (h : Rm0 w W c mb N F u) {k : Int} (hw : (Lit.int .i64 k).wf = true) (hk : F k = none) (hN : N < maxLen) (hW : W ≤ w.heap.size) :
    ∃ w', (Instr.mapUpdate 49 (.map (some mb)) (.int .i64 k) (.map (some w.heap.size))).run Try.prog (w.alloc (.map #[] 0)) = .ok () w' ∧ Rm0 w' W c mb (N + 1) (fun j => if j = k then some w.heap.size else F j) u ∧ Only (fun g => g = mb) w w' := by
  have hb : Below w.heap.size w (w.alloc (.map #[] 0)) := (Below.refl _ _).alloc (Nat.le_refl _) _
  have h1 := h.below hb
  obtain ⟨w', hr, hm, ht⟩ := h1.out.store keyed3 Try.underlying3 (t := 49) Try.underlying49 hN hw w.heap.size
  have ho : Only (fun g => g = mb) (w.alloc (.map #[] 0)) w' := (Only.refl _ _).turned ht (.inl rfl)
  have ho2 : Only (fun g => g = mb) w w' := (only_fresh hb).trans ho
  have hml := h.out.lt
  have keep : ∀ b' f, b' ≠ mb → IMap (w.alloc (.map #[] 0)) b' N f → IMap w' b' (N + 1) f := fun b' f hne hi => by
    have hlt := hi.lt
    obtain ⟨D, ⟨es, clock, hh, r1⟩, r⟩ := hi
    exact MapG.mono ⟨D, ⟨es, clock, (ho.block b' hlt hne).trans hh, r1⟩, r⟩ (Nat.le_succ _)
  refine ⟨w', hr, ⟨h1.blk.only ho h.cm, hm, fun j b' hj => ?_, fun j hj q => ?_, fun j j' b' hj hj' => ?_, fun j b' hj => ?_, h.cm, h.lo.1, h.lo.2.1, fun j b' hj => ?_⟩, ho2⟩
  · by_cases e : j = k
    · subst e
      rw [if_pos rfl] at hj
      cases hj
      have e2 : usF (u j) = fun _ => none := by
        funext q
        unfold usF
        rw [h.non j hk q]; rfl
      rw [e2]
      exact keep _ _ (by omega) ((MapG.new w _ _ plcC useC).mono (Nat.zero_le _))
    · rw [if_neg e] at hj
      exact keep _ _ (h.ne j b' hj).1 (h1.inn j b' hj)
  · by_cases e : j = k
    · rw [if_pos e] at hj; cases hj
    · rw [if_neg e] at hj; exact h.non j hj q
  · by_cases e : j = k <;> by_cases e' : j' = k
    · rw [e, e']
    · rw [if_pos e] at hj
      rw [if_neg e'] at hj'
      cases hj
      have := (h.inn j' _ hj').lt
      omega
    · rw [if_neg e] at hj
      rw [if_pos e'] at hj'
      cases hj'
      have := (h.inn j _ hj).lt
      omega
    · rw [if_neg e] at hj
      rw [if_neg e'] at hj'
      exact h.inj j j' b' hj hj'
  · by_cases e : j = k
    · rw [if_pos e] at hj
      cases hj
      have := h.blk.lt
      omega
    · rw [if_neg e] at hj; exact h.ne j b' hj
  · by_cases e : j = k
    · rw [if_pos e] at hj
      cases hj
      exact hW
    · rw [if_neg e] at hj; exact h.lo.2.2 j b' hj
end
end Go.Proofs.Ytdnfjpelhiniaaa
