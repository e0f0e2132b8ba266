/- Package index: Add. -/
import Derived.Test.YtkpngkdkkcadfaaIxc
import Derived.Test.YtkpngkdkkcadfaaTake
import Derived.Deep.DeepCutAuto
import Derived.Deep.CutBlock
namespace Go.Proofs.Ytkpngkdkkcadfaa
open Go.RowKit Mk
section
variable {w : World} {Wm Wx cm cx n : Nat} {G : Int → Nat → Nat} {S : Ki → Option Cx} {Bm Bx : Nat → Prop}
def AddIs (w : World) (Wx cm cx n : Nat) (G : Int → Nat → Nat) (S : Ki → Option Cx) (Bx : Nat → Prop) (k : Ki) (e : Ending) (w' : World) : Prop :=
  (¬ (0 ≤ k.1 ∧ k.1 < n) ∧ e = .returned (.int .i64 2) ∧ Below w.heap.size w w') ∨
  ((0 ≤ k.1 ∧ k.1 < n) ∧ (S k).isSome = true ∧ e = .returned (.int .i64 22) ∧ Below w.heap.size w w') ∨
  ((0 ≤ k.1 ∧ k.1 < n) ∧ S k = none ∧ e = .returned (.int .i64 0) ∧ XmTo w w' Wx cx cm (putS S k (dig (G k.1))) Bx)
set_option maxRecDepth 100000 in
set_option maxHeartbeats 8000000 in
theorem xadd (hm : Pm w Wm cm n G Bm) (hx : Xm w Wx cx cm S Bx) (hn : n ≤ 1000) (hW : Wx ≤ w.heap.size) (k : Int) (hk : (Lit.int .i64 k).wf = true) :
    Calls Try.prog 8 #[.pointer (some ⟨cx, 0, none⟩), .int .i64 k] w (AddIs w Wx cm cx n G S Bx ⟨k, hk⟩) := by
  obtain ⟨ms, mb, BF, hx, rfl⟩ := hx
  have C := Lib.hid (pget hm k hk)
  have HX := Lib.hid hx
  have HG := Lib.hid (fun j => hm.bytes k j)
  have c0 := (hx.blk.cell 0).trans rfl
  clear hm hx
  go_enter Try.func8, Try.ntmps8
  go_wp2_with fail
  refine C.out.mono ?_; rintro e w1 ⟨hb1, (⟨h0, h1, v, rfl, hr⟩ | ⟨h0, rfl⟩)⟩
  · obtain ⟨b, cap, rfl, _, _⟩ := hr.form (by omega)
    have HP := Lib.hid (Pg.of_own hr)
    have HB1 := Lib.hid hb1
    have HX1 := Lib.hid (HX.out.below hb1)
    have H0 := Lib.hid (show 0 ≤ k ∧ k < (n : Int) from ⟨h0, h1⟩)
    clear hb1 h0 h1 hr C c0
    go_wp2_with fail
    refine (xhas HX1.out k hk).mono ?_; rintro e w2 ⟨rfl, rfl⟩
    cases hs : S ⟨k, hk⟩ with
    | some z0 =>
      have HS := Lib.hid hs
      clear hs
      go_wp2
      go_ret
      exact .inr (.inl ⟨H0.out, by rw [HS.out]; rfl, rfl, HB1.out⟩)
    | none =>
      have HS := Lib.hid hs
      clear hs
      go_wp2_with fail
      refine (dof HP.out HG.out).mono ?_; rintro e w2 ⟨rfl, rfl⟩
      clear HP
      obtain ⟨z, hz⟩ : ∃ z, dig (G k) = z := ⟨_, rfl⟩
      rw [hz]
      have HZ := Lib.hid hz
      clear hz
      obtain ⟨zv, hzv⟩ : ∃ zv, cxV z = zv := ⟨_, rfl⟩
      have HZV := Lib.hid hzv
      rw [hzv]
      clear hzv
      have c2 := (HX1.out.blk.cell 2).trans rfl
      obtain ⟨M, hM⟩ := HX1.out.bm
      have hl : ∃ v l, (Instr.lookup 72 (.map (some mb)) zv false).run Try.prog w1 = .ok v w1 ∧ (BF z = some v ∨ (BF z = none ∧ v = .slice none 0 0)) ∧ Grp S z l ∧ w1.ownsRow Wx 3 1 v l.length (l.map iv) := by
        have h9 := hM.look false (t := 72) Try.underlying72 (zeroL w1) z
        rw [show cxK.val z = zv from HZV.out] at h9
        cases hb : BF z with
        | some v =>
          rw [hb] at h9
          obtain ⟨l, _, h2, h3⟩ := HX1.out.row z v hb
          exact ⟨v, l, h9, .inl rfl, h2, h3⟩
        | none =>
          rw [hb] at h9
          exact ⟨.slice none 0 0, [], h9, .inr ⟨rfl, rfl⟩, ⟨List.Pairwise.nil, fun x => ⟨fun h => (by cases h), fun ⟨h, e⟩ => absurd e (HX1.out.non z hb _)⟩⟩, World.ownsRow_nil _ _ _ _⟩
      obtain ⟨v, l, hlk, hv, hgr, hown⟩ := hl
      have HV := Lib.hid hv
      have HGR := Lib.hid hgr
      have HO := Lib.hid hown
      have hll : l.length ≤ 1000 := rise_len hgr.1 (n := 1000) fun x hx => by
        obtain ⟨h, e⟩ := (hgr.2 x).1 hx
        exact HX1.out.dom _ _ e
      clear hM hv hgr hown
      go_wp2_with fail
      refine (bs_own Wx 3 v l k w1 HO.out HGR.out.1 (by omega)).mono ?_; rintro e w3 ⟨rfl, q, rfl⟩
      obtain ⟨i, hi⟩ : ∃ i, l.countP (· < k) = i := ⟨_, rfl⟩
      rw [hi]
      have HI := Lib.hid (show cn k l = i from hi)
      have hil : i ≤ l.length := by rw [← hi]; exact List.countP_le_length
      clear hi hlk c2
      replace HX1 := Lib.hid (HX1.out.below (below_drewN (Below.refl _ _) q))
      replace HO := Lib.hid (own_below HO.out (below_drewN (Below.refl _ _) q))
      replace HB1 := Lib.hid (below_drewN HB1.out q)
      generalize w1.drewN q = w2 at *
      go_upto_region 9 with fail
      replace HX1 := Lib.hid (show Ix w2.drew Wx cx cm ms mb S BF from HX1.out.below (Below.refl _ _).drew)
      replace HO := Lib.hid (show w2.drew.ownsRow Wx 3 1 v l.length (l.map iv) from own_below HO.out (Below.refl _ _).drew)
      replace HB1 := Lib.hid (show Below w.heap.size w w2.drew from HB1.out.drew)
      have SK := Lib.hid (show ∀ w', Below w2.drew.heap.size w2.drew w' → w'.cell? ⟨cx, 1, none⟩ = some (.map (some ms)) ∧ w'.cell? ⟨cx, 2, none⟩ = some (.map (some mb)) from fun w' hb => ⟨((HX1.out.below hb).blk.cell 1).trans rfl, ((HX1.out.below hb).blk.cell 2).trans rfl⟩)
      refine wp_region_held_drew (S := (fun w' => w'.cell? ⟨cx, 1, none⟩ = some (.map (some ms)) ∧ w'.cell? ⟨cx, 2, none⟩ = some (.map (some mb)))) (by kernel_rfl) ?_ (fun hHeld => ?_)
      · exact SK.out _ (Below.refl _ _)
      generalize w2.drew = w3 at *
      ((refine takeY 0 (v := ?_) rfl (by kernel_rfl) (by kernel_rfl) (by kernel_rfl) (fun _ _ _ h => h) (by rfl) (by assumption) ?_ ?_; rotate_left; · (intro w hSw; (try dsimp only at hSw); go_simp; (first | done | with_reducible rfl))))
      (try simp only [Act.put, List.setIfInBounds_toArray, List.set_cons_zero, List.set_cons_succ])
      ((refine takeY 1 (v := ?_) rfl (by kernel_rfl) (by kernel_rfl) (by kernel_rfl) (fun _ _ _ h => h) (by rfl) (by assumption) ?_ ?_; rotate_left; · (intro w hSw; (try dsimp only at hSw); go_simp; (first | done | with_reducible rfl))))
      (try simp only [Act.put, List.setIfInBounds_toArray, List.set_cons_zero, List.set_cons_succ])
      ((refine takeY 2 (v := ?_) rfl (by kernel_rfl) (by kernel_rfl) (by kernel_rfl) (fun _ _ _ h => h) (by rfl) (by assumption) ?_ ?_; rotate_left; · (intro w hSw; (try dsimp only at hSw); go_simp; (first | done | with_reducible rfl))))
      (try simp only [Act.put, List.setIfInBounds_toArray, List.set_cons_zero, List.set_cons_succ])
      ((refine takeY 3 (v := ?_) rfl (by kernel_rfl) (by kernel_rfl) (by kernel_rfl) (fun _ _ _ h => h) (by rfl) (by assumption) ?_ ?_; rotate_left; · (intro w hSw; (try dsimp only at hSw); go_simp; (first | done | with_reducible rfl))))
      (try simp only [Act.put, List.setIfInBounds_toArray, List.set_cons_zero, List.set_cons_succ])
      ((refine takeY 4 (v := ?_) rfl (by kernel_rfl) (by kernel_rfl) (by kernel_rfl) (fun _ _ _ h => h) (by rfl) (by assumption) ?_ ?_; rotate_left; · (intro w hSw; (try dsimp only at hSw); go_simp; (first | done | with_reducible rfl))))
      (try simp only [Act.put, List.setIfInBounds_toArray, List.set_cons_zero, List.set_cons_succ])
      ((refine takeY 5 (v := ?_) rfl (by kernel_rfl) (by kernel_rfl) (by kernel_rfl) (fun _ _ _ h => h) (by rfl) (by assumption) ?_ ?_; rotate_left; · (intro w hSw; (try dsimp only at hSw); go_simp; (first | done | with_reducible rfl))))
      (try simp only [Act.put, List.setIfInBounds_toArray, List.set_cons_zero, List.set_cons_succ])
      ((refine takeY 6 (v := ?_) rfl (by kernel_rfl) (by kernel_rfl) (by kernel_rfl) (fun _ _ _ h => h) (by rfl) (by assumption) ?_ ?_; rotate_left; · (intro w hSw; (try dsimp only at hSw); go_simp; (first | done | with_reducible rfl))))
      (try simp only [Act.put, List.setIfInBounds_toArray, List.set_cons_zero, List.set_cons_succ])
      ((refine takeY 7 (v := ?_) rfl (by kernel_rfl) (by kernel_rfl) (by kernel_rfl) (fun _ _ _ h => h) (by rfl) (by assumption) ?_ ?_; rotate_left; · (intro w hSw; (try dsimp only at hSw); go_simp; (first | done | with_reducible rfl))))
      (try simp only [Act.put, List.setIfInBounds_toArray, List.set_cons_zero, List.set_cons_succ])
      ((refine takeY 8 (v := ?_) rfl (by kernel_rfl) (by kernel_rfl) (by kernel_rfl) (fun _ _ _ h => h) (by rfl) (by assumption) ?_ ?_; rotate_left; · (intro w hSw; (try dsimp only at hSw); go_simp; (first | done | with_reducible rfl))))
      (try simp only [Act.put, List.setIfInBounds_toArray, List.set_cons_zero, List.set_cons_succ])
      ((refine takeY 9 (v := ?_) rfl (by kernel_rfl) (by kernel_rfl) (by kernel_rfl) (fun _ _ _ h => h) (by rfl) (by assumption) ?_ ?_; rotate_left; · (intro w hSw; (try dsimp only at hSw); go_simp; (first | done | with_reducible rfl))))
      (try simp only [Act.put, List.setIfInBounds_toArray, List.set_cons_zero, List.set_cons_succ])
      ((refine takeY 10 (v := ?_) rfl (by kernel_rfl) (by kernel_rfl) (by kernel_rfl) (fun _ _ _ h => h) (by rfl) (by assumption) ?_ ?_; rotate_left; · (intro w hSw; (try dsimp only at hSw); go_simp; (first | done | with_reducible rfl))))
      (try simp only [Act.put, List.setIfInBounds_toArray, List.set_cons_zero, List.set_cons_succ])
      ((refine takeY 11 (v := ?_) rfl (by kernel_rfl) (by kernel_rfl) (by kernel_rfl) (fun _ _ _ h => h) (by rfl) (by assumption) ?_ ?_; rotate_left; · (intro w hSw; (try dsimp only at hSw); go_simp; (first | done | with_reducible rfl))))
      (try simp only [Act.put, List.setIfInBounds_toArray, List.set_cons_zero, List.set_cons_succ])
      ((refine takeY 12 (v := ?_) rfl (by kernel_rfl) (by kernel_rfl) (by kernel_rfl) (fun _ _ _ h => h) (by rfl) (by assumption) ?_ ?_; rotate_left; · (intro w hSw; (try dsimp only at hSw); go_simp; (first | done | with_reducible rfl))))
      (try simp only [Act.put, List.setIfInBounds_toArray, List.set_cons_zero, List.set_cons_succ])
      ((refine takeY 13 (v := ?_) rfl (by kernel_rfl) (by kernel_rfl) (by kernel_rfl) (fun _ _ _ h => h) (by rfl) (by assumption) ?_ ?_; rotate_left; · (intro w hSw; (try dsimp only at hSw); go_simp; (first | done | with_reducible rfl))))
      (try simp only [Act.put, List.setIfInBounds_toArray, List.set_cons_zero, List.set_cons_succ])
      refine stepH 14 rfl (by kernel_rfl) (by rfl) (fun K hK => ?_)
      go_simp
      (refine hK.out _ _ ?_ (fun hHeld => ?_))
      · exact SK.out _ ((Below.refl _ _).alloc (Nat.le_refl _) _)
      clear hK K
      have HGB := Lib.hid (Blk.new w3 3 #[iv k])
      have HX4 := Lib.hid (HX1.out.below ((Below.refl _ _).alloc (Nat.le_refl _) (.cells #[iv k] 3)))
      replace HO := Lib.hid (own_below HO.out ((Below.refl _ _).alloc (Nat.le_refl _) (.cells #[iv k] 3)))
      have HB4 := Lib.hid ((Below.refl w3.heap.size w3).alloc (Nat.le_refl _) (.cells #[iv k] 3))
      have hsz : w3.heap.size < (w3.alloc (.cells #[iv k] 3)).heap.size := by simp
      generalize hw4 : w3.alloc (.cells #[iv k] 3) = w4 at *
      clear hw4
      have hvg : v.ownBlock ≠ some w3.heap.size := fun e => by
        rcases HV.out with h9 | ⟨_, rfl⟩
        · obtain ⟨l9, _, _, h3⟩ := HX1.out.row z v h9
          have := (h3.lt _ e).2; omega
        · cases e
      refine stepH 15 rfl (by kernel_rfl) (by rfl) (fun K hK => ?_)
      go_simp
      refine (ins_own Wx v l i w3.heap.size k w4 HO.out hil (by omega) (by have := HB1.out.size; omega) HGB.out hvg).mono ?_; rintro e w5 ⟨v', rfl, hown5, hg5, hat5⟩
      have ho5 : Only (fun g => v.ownBlock = some g) w4 w5 := (Only.refl _ w4).grown hg5 fun g e => .inl e
      have HB5 := Lib.hid ho5
      have HO5 := Lib.hid hown5
      have HAT := Lib.hid hat5
      obtain ⟨hvap1, hvap2, hvap3⟩ : v.ownBlock ≠ some cx ∧ v.ownBlock ≠ some ms ∧ v.ownBlock ≠ some mb := by
        rcases HV.out with h9 | ⟨_, rfl⟩
        · exact HX1.out.ap z v h9
        · exact ⟨fun e => (by cases e), fun e => (by cases e), fun e => (by cases e)⟩
      obtain ⟨N, hN⟩ := HX4.out.sm
      obtain ⟨M, hM⟩ := HX4.out.bm
      have hN5 := hN.only ho5 hvap2
      have hM5 := hM.only ho5 hvap3
      obtain ⟨w6, v6, s6, hr6, hk6, ht6⟩ := hN5.entry (t := 71) Try.underlying71 (zeroC w5) ⟨k, hk⟩
      obtain ⟨w7, hr7, hk7, ht7⟩ := hk6.store 71 zv
      have ho6 : Only (fun g => g = ms) w5 w6 := (Only.refl _ w5).turned ht6 (.inl rfl)
      have ho7 : Only (fun g => g = ms) w5 w7 := ho6.turned ht7 (.inl rfl)
      have hM7 := hM5.only ho7 (fun e => HX1.out.df.2.2 e.symm)
      obtain ⟨w8, v8, s8, hr8, hk8, ht8⟩ := hM7.entry (t := 72) Try.underlying72 (zeroL w7) z
      obtain ⟨w9, hr9, hk9, ht9⟩ := hk8.store 72 v'
      have ho8 : Only (fun g => g = mb) w7 w8 := (Only.refl _ w7).turned ht8 (.inl rfl)
      have ho9 : Only (fun g => g = mb) w7 w9 := ho8.turned ht9 (.inl rfl)
      have hr6 : (Instr.mapEntry 71 (.map (some ms)) (.int .i64 k)).run Try.prog w5 = .ok (.tuple #[v6, .int .i64 (s6 : Int)]) w6 := hr6
      have hr8 : (Instr.mapEntry 72 (.map (some mb)) zv).run Try.prog w7 = .ok (.tuple #[v8, .int .i64 (s8 : Int)]) w8 := by rw [← HZV.out]; exact hr8
      have HEND := Lib.hid (HX1.out.add (k := ⟨k, hk⟩) (z := z) HS.out (by have := H0.out; show 0 ≤ k ∧ k < 1000; omega) HV.out HGR.out ((only_fresh HB4.out).trans (ho5)) (by rw [show cn (⟨k, hk⟩ : Ki).1 l = i from HI.out]; exact hown5) (fun g hg => by
        rcases HAT.out with e | e
        · rw [e] at hg; exact .inl hg
        · rw [e] at hg; injection hg with hg; right; omega) ⟨_, by rw [HZV.out]; exact hk7⟩ ho7 ⟨_, hk9⟩ ho9)
      have SK5 := Lib.hid (show ∀ w' : World, (w'.heap[cx]? = w5.heap[cx]?) → w'.cell? ⟨cx, 1, none⟩ = some (.map (some ms)) ∧ w'.cell? ⟨cx, 2, none⟩ = some (.map (some mb)) from fun w' hb => by
        have hblk : Blk w' cx 74 #[.pointer (some ⟨cm, 0, none⟩), .map (some ms), .map (some mb)] := hb.trans (HX4.out.blk.only ho5 hvap1)
        exact ⟨(hblk.cell 1).trans rfl, (hblk.cell 2).trans rfl⟩)
      have HLT := Lib.hid (show cx < w5.heap.size from (HX4.out.blk.only ho5 hvap1).lt)
      have HC6 := Lib.hid (ho6.block cx HLT.out HX1.out.df.1)
      have HC7 := Lib.hid (ho7.block cx HLT.out HX1.out.df.1)
      have HC8 := Lib.hid ((ho8.block cx (Nat.lt_of_lt_of_le HLT.out ho7.size) HX1.out.df.2.1).trans HC7.out)
      have HC9 := Lib.hid ((ho9.block cx (Nat.lt_of_lt_of_le HLT.out ho7.size) HX1.out.df.2.1).trans HC7.out)
      clear hown5 hg5 hat5 hN hM hN5 hM5 hk6 ht6 hk7 ht7 hM7 hk8 ht8 hk9 ht9 ho5 ho6 ho7 ho8 ho9
      (refine hK.out _ _ ?_ (fun hHeld => ?_))
      · exact SK5.out _ rfl
      clear hK K
      refine stepH 16 rfl (by kernel_rfl) (by rfl) (fun K hK => ?_)
      go_simp
      (refine hK.out _ _ ?_ (fun hHeld => ?_))
      · exact SK5.out _ HC6.out
      clear hK K
      ((refine takeY 17 (v := ?_) rfl (by kernel_rfl) (by kernel_rfl) (by kernel_rfl) (fun _ _ _ h => h) (by rfl) (by assumption) ?_ ?_; rotate_left; · (intro w hSw; (try dsimp only at hSw); go_simp; (first | done | with_reducible rfl))))
      (try simp only [Act.put, List.setIfInBounds_toArray, List.set_cons_zero, List.set_cons_succ])
      refine stepH 18 rfl (by kernel_rfl) (by rfl) (fun K hK => ?_)
      go_simp
      (refine hK.out _ _ ?_ (fun hHeld => ?_))
      · exact SK5.out _ HC7.out
      clear hK K
      refine stepH 19 rfl (by kernel_rfl) (by rfl) (fun K hK => ?_)
      go_simp
      (refine hK.out _ _ ?_ (fun hHeld => ?_))
      · exact SK5.out _ HC8.out
      clear hK K
      ((refine takeY 20 (v := ?_) rfl (by kernel_rfl) (by kernel_rfl) (by kernel_rfl) (fun _ _ _ h => h) (by rfl) (by assumption) ?_ ?_; rotate_left; · (intro w hSw; (try dsimp only at hSw); go_simp; (first | done | with_reducible rfl))))
      (try simp only [Act.put, List.setIfInBounds_toArray, List.set_cons_zero, List.set_cons_succ])
      refine stepH 21 rfl (by kernel_rfl) (by rfl) (fun K hK => ?_)
      go_simp
      (refine hK.out _ _ ?_ (fun hHeld => ?_))
      · exact SK5.out _ HC9.out
      clear hK K
      refine wpAnyH_done (by kernel_rfl) ?_ _
      clear hHeld hr6 hr7 hr8 hr9
      go_wp2
      go_ret
      refine .inr (.inr ⟨H0.out, HS.out, rfl, ?_⟩)
      obtain ⟨h1, h2, h3⟩ := HEND.out
      rw [show dig (G (⟨k, hk⟩ : Ki).1) = z from HZ.out]
      exact ⟨_, ⟨ms, mb, _, h1, rfl⟩, (only_fresh HB1.out).trans h2, fun g hg => by
        rcases h3 g hg with h9 | h9
        · exact .inl h9
        · right; have := HB1.out.size; omega⟩
  · have H0 := Lib.hid h0
    have HB1 := Lib.hid hb1
    clear hb1 h0 C
    go_wp2
    go_ret
    exact .inl ⟨H0.out, rfl, HB1.out⟩
end
end Go.Proofs.Ytkpngkdkkcadfaa
