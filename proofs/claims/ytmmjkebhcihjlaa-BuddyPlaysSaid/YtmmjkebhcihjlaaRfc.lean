/- The document's own answer for package buddy: Runs, Take. -/
import Derived.Test.YtmmjkebhcihjlaaRfb
namespace Go.Proofs.Ytmmjkebhcihjlaa
open Go.RowKit

/-- The runs of the frames ahead of f. -/
def RunsTo (S : Nat → Bool) (f : Nat) (ts : List (Nat × Nat)) : Prop := ts.Pairwise (fun a b => a.1 < b.1) ∧ ∀ g p, (g, p) ∈ ts ↔ Bud.Mx S g p ∧ g < f
theorem RunsTo.skip {S : Nat → Bool} {f : Nat} {ts : List (Nat × Nat)} (h : RunsTo S f ts) (hs : S f = false) : RunsTo S (f + 1) ts := ⟨h.1, fun g p => by
  rw [h.2 g p]
  constructor
  · rintro ⟨a, b⟩; exact ⟨a, by omega⟩
  · rintro ⟨a, b⟩
    refine ⟨a, ?_⟩
    have := a.all g (Nat.le_refl _) (by have := Bud.pow_pos p; omega)
    by_cases e : g = f
    · rw [e, hs] at this; cases this
    · omega⟩
theorem RunsTo.snoc {S : Nat → Bool} {f o : Nat} {ts : List (Nat × Nat)} (h : RunsTo S f ts) (hm : Bud.Mx S f o) : RunsTo S (f + 2 ^ o) (ts ++ [(f, o)]) := by
  have hpo := Bud.pow_pos o
  refine ⟨?_, fun g p => ?_⟩
  · rw [List.pairwise_append]
    refine ⟨h.1, List.pairwise_singleton .., fun a ha b hb => ?_⟩
    rw [List.mem_singleton.1 hb]
    exact ((h.2 a.1 a.2).1 ha).2
  · rw [List.mem_append, h.2 g p, List.mem_singleton]
    constructor
    · rintro (⟨a, b⟩ | e)
      · exact ⟨a, by omega⟩
      · injection e with e1 e2
        rw [e1, e2]
        exact ⟨hm, by omega⟩
    · rintro ⟨a, b⟩
      by_cases e : g < f
      · exact .inl ⟨a, e⟩
      · right
        have hpp := Bud.pow_pos p
        obtain ⟨e1, e2⟩ := a.unique hm (Nat.le_refl g) (by omega) (by omega) b
        rw [e1, e2]

section
variable {w w' : World} {W c g fi n : Nat} {S S' : Nat → Bool}

def RrR (w : World) (S : Nat → Bool) (fi n : Nat) (v vf : Value) (wr : World) : Prop := ∃ (f : Nat) (ts : List (Nat × Nat)), vf = .int .i64 f ∧ fi ≤ f ∧ f ≤ fi + n ∧ Bud.Cut S f ∧ RunsTo S f ts ∧ ts.length ≤ f - fi ∧ wr.ownsRow w.heap.size 34 2 v ts.length (ts.flatMap pv) ∧ Below w.heap.size w wr
def RoR (S : Nat → Bool) (f : Nat) (wo : World) (v : Value) (wr : World) : Prop := ∃ o q : Nat, v = .int .i64 o ∧ Bud.Grd S f o ∧ wr = wo.drewN q

set_option maxRecDepth 100000 in
set_option maxHeartbeats 4000000 in
theorem rruns (h : RfAt w W c g fi n S) (hn : n ≤ 1500) :
    Calls Try.prog 21 #[.pointer (some ⟨c, 0, none⟩)] w fun e w' => ∃ (v : Value) (ts : List (Nat × Nat)), e = .returned v ∧ RunsOf S ts ∧ w'.ownsRow w.heap.size 34 2 v ts.length (ts.flatMap pv) ∧ Below w.heap.size w w' := by
  have HR0 := Lib.hid h
  have d0 := h.c0
  have hh := h.hi
  obtain ⟨i0, hi0, hz0', hz1, hz2⟩ := info_parts infoR
  clear h
  go_enter Try.func21, Try.ntmps21
  go_wp2_with fail
  clear d0
  go_loopw [3, 4] (RrR w S fi n) (fun _ v _ => fi + n - cntI v)
  case atStart => exact ⟨fi, [], rfl, Nat.le_refl _, by omega, Bud.Cut.first (fun k hk => by
    cases hs : S k
    · rfl
    · have := HR0.out.rng k hs; omega), ⟨List.Pairwise.nil, fun g p => ⟨fun h => (by cases h), fun ⟨hm, hlt⟩ => by
      have := HR0.out.rng g (hm.all g (Nat.le_refl _) (by have := Bud.pow_pos p; omega)); omega⟩⟩, Nat.zero_le _, World.ownsRow_nil _ _ _ _, Below.refl _ _⟩
  case round =>
    obtain ⟨f, ts, rfl, hf1, hf2, hcut, hrt, htl, hown, hbe⟩ := hrel
    have HC := Lib.hid hcut
    have HRT := Lib.hid hrt
    have HO := Lib.hid hown
    have HBE := Lib.hid hbe
    have HR := Lib.hid (HR0.out.below hbe)
    have d0 := HR.out.c0
    have d1 := HR.out.c1
    clear hcut hrt hown hbe
    obtain ⟨en, hen, hen2⟩ : ∃ en : Nat, (fi : Int) + (n : Int) = (en : Int) ∧ en = fi + n := ⟨fi + n, by simp, rfl⟩
    have hwe : IntKind.i64.wrap (en : Int) = (en : Int) := IntWalk.i64_in _ (by omega)
    by_cases hfe : f < en
    · have g0 : decide ((f : Int) < (en : Int)) = true := by simp; exact hfe
      have g0' : decide (f < en) = true := by simp; exact hfe
      have CH := Lib.hid (fun q => rhas (HR.out.drewN q) (f : Int) (by omega))
      cases hs : S f
      · have HCH := Lib.hid (fun q => (show Calls Try.prog 18 #[.pointer (some ⟨c, 0, none⟩), .int .i64 (f : Int)] (wr.drewN q) fun e w' => e = .returned (.bool false) ∧ ∃ q', w' = (wr.drewN q).drewN q' from by
          have := CH.out q
          rw [hasF_nat, hs] at this
          exact this))
        have HRT2 := Lib.hid (HRT.out.skip hs)
        have HC2 := Lib.hid (HC.out.skip hs)
        clear hs CH hen2
        go_wp2_with fail
        go_quiet (fail)
        go_wp2_with fail
        refine (HCH.out _).mono ?_; rintro e w6 ⟨rfl, q6, rfl⟩
        go_wp2
        go_roundw
        case rel => exact ⟨f + 1, ts, by go_num, by omega, by omega, HC2.out, HRT2.out, by omega, own_below HO.out (below_drewN (Below.refl _ _) _), below_drewN HBE.out _⟩
        case measure => simp [cntI]; omega
      · have HCH := Lib.hid (fun q => (show Calls Try.prog 18 #[.pointer (some ⟨c, 0, none⟩), .int .i64 (f : Int)] (wr.drewN q) fun e w' => e = .returned (.bool true) ∧ ∃ q', w' = (wr.drewN q).drewN q' from by
          have := CH.out q
          rw [hasF_nat, hs] at this
          exact this))
        have HGS := Lib.hid (Bud.Grd.start hs)
        clear hs CH hen2
        go_wp2_with fail
        go_quiet (fail)
        go_wp2_with fail
        refine (HCH.out _).mono ?_; rintro e w6 ⟨rfl, q6, rfl⟩
        go_wp2_with fail
        obtain ⟨wo, rfl⟩ : ∃ wo : World, wo = wr := ⟨_, rfl⟩
        go_loopw [5] (RoR S f wo) (fun v _ => 10 - cntI v)
        case atStart => exact ⟨0, _, rfl, HGS.out, rfl⟩
        case round =>
          clear HGS HCH d0 d1
          obtain ⟨o, q, rfl, hg, rfl⟩ := hrel
          have HG := Lib.hid hg
          have ho9 := hg.le
          clear hg
          by_cases h9 : o < 9
          · have k0 : decide ((o : Int) < 9) = true := by simp; omega
            have k0' : decide (o < 9) = true := by simp; omega
            obtain ⟨o1, ho1, ho12⟩ : ∃ x : Nat, (o : Int) + 1 = (x : Int) ∧ x = o + 1 := ⟨o + 1, by simp, rfl⟩
            obtain ⟨t, ht, ht2, ht3, ht4⟩ : ∃ t : Nat, (2 : Int) ^ o1 = (t : Int) ∧ t ≤ 512 ∧ t = 2 ^ o1 ∧ 0 < t := ⟨2 ^ o1, by simp, by have := Bud.pow_le (show o1 ≤ 9 by omega); omega, rfl, Nat.two_pow_pos o1⟩
            obtain ⟨r, hr, hr2⟩ : ∃ r : Nat, (f : Int) % (t : Int) = (r : Int) ∧ r = f % t := ⟨f % t, by simp, rfl⟩
            have ht6 : ¬ t = 0 := by omega
            have HO1 := Lib.hid ho12
            have HT := Lib.hid ht3
            have HRR := Lib.hid hr2
            have ho19 : o1 ≤ 9 := by omega
            have hf3 : f ≤ 1048576 := by omega
            clear ho12 ht3 hr2
            by_cases hr0 : r = 0
            · have k1 : ((r : Int) == 0) = true := by simp; exact hr0
              have k1' : (r == 0) = true := by simp; exact hr0
              have HR9 := Lib.hid hr0
              have CA := rall (HR.out.drewN q) f o1 hf3 ho19
              clear hr0
              cases hab : allB S f o1
              · rw [hab] at CA
                have HNO := Lib.hid (show o < 9 → ¬ (f % 2 ^ (o + 1) = 0 ∧ Bud.All S f (o + 1)) from fun _ hc => by
                  have := allB_iff.2 hc.2
                  rw [← HO1.out, hab] at this; cases this)
                clear hab
                go_wp2_with fail
                refine CA.mono ?_; rintro e w7 ⟨rfl, q7, rfl⟩
                clear CA
                have hdn := HG.out.done HC.out HNO.out
                have HMX := Lib.hid hdn.1
                have HCU := Lib.hid hdn.2
                obtain ⟨t1, ht1, ht2', ht3', ht4'⟩ : ∃ t : Nat, (2 : Int) ^ o = (t : Int) ∧ t ≤ 512 ∧ t = 2 ^ o ∧ 0 < t := ⟨2 ^ o, by simp, by have := Bud.pow_le HG.out.le; omega, rfl, Nat.two_pow_pos o⟩
                have hend : f + t1 ≤ fi + n := by
                  have h1 := hdn.1.all (f + 2 ^ o - 1) (by omega) (by omega)
                  have := HR.out.rng _ h1
                  omega
                have HT1 := Lib.hid ht3'
                clear hdn ht3' HNO
                have HQ5 := Lib.hid (show Below wo.heap.size wo ((wo.drewN q).drewN q7) from by first | exact below_drewN (below_drewN (Below.refl _ _) _) _ | exact below_drewN (Below.refl _ _) _)
                have HO5 := Lib.hid (own_below HO.out HQ5.out)
                have HB5 := Lib.hid (HBE.out.trans (HQ5.out.mono HBE.out.size))
                generalize (wo.drewN q).drewN q7 = w5 at *
                go_wp2_with (first
                  | (at_builtin; refine wpList_append_any _ rfl (.tmp 48) (.tmp 52) _ rfl w.heap.size 34 i0 _ 2 16 Try.underlying31 hi0 hz0' hz1 hz2 rfl (by omega) u3 _ _ rfl (HO5.out.alloc _) _ (some ⟨w5.heap.size, 0, none⟩) 1 1 [.int .i64 (f : Int), .int .i64 (o : Int)] rfl (reads_pair _ _ _ _) (by simp; exact ⟨rfl, rfl⟩) (by unfold maxLen; omega) (by omega) (by have := HB5.out.size; simp; omega) ?_; intro v2 w4 hown2 hg4 hat2)
                  | go_in)
                exact ⟨⟨f + t1, ts ++ [(f, o)], by go_num, by omega, hend, by rw [HT1.out]; exact HCU.out, by rw [HT1.out]; exact HRT.out.snoc HMX.out, by rw [List.length_append]; simp; omega, by rw [List.length_append, List.flatMap_append]; exact hown2, (HB5.out.alloc HB5.out.size _).grown hg4 (by have := HB5.out.size; simp; omega) (fun k hk => (HO5.out.lt k hk).1)⟩, by simp [cntI]; omega⟩
              · rw [hab] at CA
                have HG1 := Lib.hid (show Bud.Grd S f (o + 1) from ⟨by rw [← HO1.out, ← HT.out, ← HRR.out]; exact HR9.out, by rw [← HO1.out]; exact allB_iff.1 hab, by omega⟩)
                clear hab
                go_wp2_with fail
                refine CA.mono ?_; rintro e w7 ⟨rfl, q7, rfl⟩
                clear CA
                go_wp2
                go_roundw
                case rel => exact ⟨o + 1, _, by rw [← HO1.out], HG1.out, rfl⟩
                case measure => simp [cntI]; have := HO1.out; omega
            · have k1 : ((r : Int) == 0) = false := by simp; omega
              have k1' : (r == 0) = false := by simp; exact hr0
              have HNO := Lib.hid (show o < 9 → ¬ (f % 2 ^ (o + 1) = 0 ∧ Bud.All S f (o + 1)) from fun _ hc => by
                have := hc.1
                rw [← HO1.out, ← HT.out, ← HRR.out] at this
                exact hr0 this)
              clear hr0
              have hdn := HG.out.done HC.out HNO.out
              have HMX := Lib.hid hdn.1
              have HCU := Lib.hid hdn.2
              obtain ⟨t1, ht1, ht2', ht3', ht4'⟩ : ∃ t : Nat, (2 : Int) ^ o = (t : Int) ∧ t ≤ 512 ∧ t = 2 ^ o ∧ 0 < t := ⟨2 ^ o, by simp, by have := Bud.pow_le HG.out.le; omega, rfl, Nat.two_pow_pos o⟩
              have hend : f + t1 ≤ fi + n := by
                have h1 := hdn.1.all (f + 2 ^ o - 1) (by omega) (by omega)
                have := HR.out.rng _ h1
                omega
              have HT1 := Lib.hid ht3'
              clear hdn ht3' HNO
              have HQ5 := Lib.hid (show Below wo.heap.size wo (wo.drewN q) from by first | exact below_drewN (below_drewN (Below.refl _ _) _) _ | exact below_drewN (Below.refl _ _) _)
              have HO5 := Lib.hid (own_below HO.out HQ5.out)
              have HB5 := Lib.hid (HBE.out.trans (HQ5.out.mono HBE.out.size))
              generalize wo.drewN q = w5 at *
              go_wp2_with (first
                | (at_builtin; refine wpList_append_any _ rfl (.tmp 48) (.tmp 52) _ rfl w.heap.size 34 i0 _ 2 16 Try.underlying31 hi0 hz0' hz1 hz2 rfl (by omega) u3 _ _ rfl (HO5.out.alloc _) _ (some ⟨w5.heap.size, 0, none⟩) 1 1 [.int .i64 (f : Int), .int .i64 (o : Int)] rfl (reads_pair _ _ _ _) (by simp; exact ⟨rfl, rfl⟩) (by unfold maxLen; omega) (by omega) (by have := HB5.out.size; simp; omega) ?_; intro v2 w4 hown2 hg4 hat2)
                | go_in)
              exact ⟨⟨f + t1, ts ++ [(f, o)], by go_num, by omega, hend, by rw [HT1.out]; exact HCU.out, by rw [HT1.out]; exact HRT.out.snoc HMX.out, by rw [List.length_append]; simp; omega, by rw [List.length_append, List.flatMap_append]; exact hown2, (HB5.out.alloc HB5.out.size _).grown hg4 (by have := HB5.out.size; simp; omega) (fun k hk => (HO5.out.lt k hk).1)⟩, by simp [cntI]; omega⟩
          · have k0 : decide ((o : Int) < 9) = false := by simp; omega
            have k0' : decide (o < 9) = false := by simp; omega
            have HNO := Lib.hid (show o < 9 → ¬ (f % 2 ^ (o + 1) = 0 ∧ Bud.All S f (o + 1)) from fun h => absurd h h9)
            have hdn := HG.out.done HC.out HNO.out
            have HMX := Lib.hid hdn.1
            have HCU := Lib.hid hdn.2
            obtain ⟨t1, ht1, ht2', ht3', ht4'⟩ : ∃ t : Nat, (2 : Int) ^ o = (t : Int) ∧ t ≤ 512 ∧ t = 2 ^ o ∧ 0 < t := ⟨2 ^ o, by simp, by have := Bud.pow_le HG.out.le; omega, rfl, Nat.two_pow_pos o⟩
            have hend : f + t1 ≤ fi + n := by
              have h1 := hdn.1.all (f + 2 ^ o - 1) (by omega) (by omega)
              have := HR.out.rng _ h1
              omega
            have HT1 := Lib.hid ht3'
            clear hdn ht3' HNO
            have HQ5 := Lib.hid (show Below wo.heap.size wo (wo.drewN q) from by first | exact below_drewN (below_drewN (Below.refl _ _) _) _ | exact below_drewN (Below.refl _ _) _)
            have HO5 := Lib.hid (own_below HO.out HQ5.out)
            have HB5 := Lib.hid (HBE.out.trans (HQ5.out.mono HBE.out.size))
            generalize wo.drewN q = w5 at *
            go_wp2_with (first
              | (at_builtin; refine wpList_append_any _ rfl (.tmp 48) (.tmp 52) _ rfl w.heap.size 34 i0 _ 2 16 Try.underlying31 hi0 hz0' hz1 hz2 rfl (by omega) u3 _ _ rfl (HO5.out.alloc _) _ (some ⟨w5.heap.size, 0, none⟩) 1 1 [.int .i64 (f : Int), .int .i64 (o : Int)] rfl (reads_pair _ _ _ _) (by simp; exact ⟨rfl, rfl⟩) (by unfold maxLen; omega) (by omega) (by have := HB5.out.size; simp; omega) ?_; intro v2 w4 hown2 hg4 hat2)
              | go_in)
            exact ⟨⟨f + t1, ts ++ [(f, o)], by go_num, by omega, hend, by rw [HT1.out]; exact HCU.out, by rw [HT1.out]; exact HRT.out.snoc HMX.out, by rw [List.length_append]; simp; omega, by rw [List.length_append, List.flatMap_append]; exact hown2, (HB5.out.alloc HB5.out.size _).grown hg4 (by have := HB5.out.size; simp; omega) (fun k hk => (HO5.out.lt k hk).1)⟩, by simp [cntI]; omega⟩
    · have g0 : decide ((f : Int) < (en : Int)) = false := by simp; omega
      have g0' : decide (f < en) = false := by simp; omega
      have HE := Lib.hid hen2
      clear hen2
      go_wp2_with fail
      go_quiet (fail)
      go_wp2
      go_ret
      exact ⟨_, ts, rfl, ⟨HRT.out.1, fun g p => (HRT.out.2 g p).trans ⟨fun h => h.1, fun hm => ⟨hm, by
        have := HR.out.rng g (hm.all g (Nat.le_refl _) (by have := Bud.pow_pos p; omega))
        have := HE.out
        omega⟩⟩⟩, own_below HO.out (below_drewN (Below.refl _ _) _), below_drewN HBE.out _⟩
end
end Go.Proofs.Ytmmjkebhcihjlaa
