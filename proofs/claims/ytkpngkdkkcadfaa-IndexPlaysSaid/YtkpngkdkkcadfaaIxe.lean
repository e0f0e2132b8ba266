/- Package index: Drop. -/
import Derived.Test.YtkpngkdkkcadfaaIxd
namespace Go.Proofs.Ytkpngkdkkcadfaa
open Go.RowKit Mk

def delS (S : Ki → Option Cx) (k : Ki) : Ki → Option Cx := fun j => if j = k then none else S j
def delV (BF : Cx → Option Value) (z : Cx) : Cx → Option Value := fun y => if y = z then none else BF y
theorem Grp.keep {S : Ki → Option Cx} {k : Ki} {z y : Cx} {l : List Int} (h : Grp S y l) (hk : S k = some z) (hy : y ≠ z) : Grp (delS S k) y l := by
  refine ⟨h.1, fun x => ?_⟩
  rw [h.2 x]
  constructor
  · rintro ⟨hx, e⟩
    refine ⟨hx, ?_⟩
    unfold delS
    rw [if_neg (fun e2 => by rw [e2, hk] at e; injection e with e; exact hy e.symm)]
    exact e
  · rintro ⟨hx, e⟩
    unfold delS at e
    by_cases e2 : (⟨x, hx⟩ : Ki) = k
    · rw [if_pos e2] at e; cases e
    · rw [if_neg e2] at e; exact ⟨hx, e⟩
theorem Grp.mem {S : Ki → Option Cx} {k : Ki} {z : Cx} {l : List Int} (h : Grp S z l) (hk : S k = some z) : k.1 ∈ l := (h.2 k.1).2 ⟨k.2, hk⟩
theorem Grp.del {S : Ki → Option Cx} {k : Ki} {z : Cx} {l : List Int} (h : Grp S z l) (hk : S k = some z) : Grp (delS S k) z (l.take (cn k.1 l) ++ l.drop (cn k.1 l + 1)) := by
  refine ⟨del_rise h.1 _, fun x => ?_⟩
  rw [del_mem h.1 (h.mem hk), h.2 x]
  constructor
  · rintro ⟨⟨hx, e⟩, hne⟩
    refine ⟨hx, ?_⟩
    unfold delS
    rw [if_neg (fun e2 => hne (congrArg Subtype.val e2))]
    exact e
  · rintro ⟨hx, e⟩
    unfold delS at e
    by_cases e2 : (⟨x, hx⟩ : Ki) = k
    · rw [if_pos e2] at e; cases e
    · rw [if_neg e2] at e; exact ⟨⟨hx, e⟩, fun e3 => e2 (Subtype.ext e3)⟩
section
variable {w3 w7 w9 : World} {W c cm ms mb : Nat} {S : Ki → Option Cx} {BF BF' : Cx → Option Value}
theorem Ix.del (h : Ix w3 W c cm ms mb S BF) {k : Ki} {z : Cx} (hk : S k = some z) {v v' : Value} {l : List Int} (hv : BF z = some v) (hg : Grp S z l)
    (ho1 : Only (fun g => g = ms ∨ v.ownBlock = some g) w3 w7)
    (hsm : ∃ N, KMap Try.prog 3 kiK w7 ms N (fun j => if j = k then none else (S j).map cxV))
    (hBF : (BF' = putV BF z v' ∧ l.take (cn k.1 l) ++ l.drop (cn k.1 l + 1) ≠ [] ∧ v'.ownBlock = v.ownBlock ∧ w7.ownsRow W 3 1 v' (l.length - 1) ((l.take (cn k.1 l) ++ l.drop (cn k.1 l + 1)).map iv)) ∨ (BF' = delV BF z ∧ l.take (cn k.1 l) ++ l.drop (cn k.1 l + 1) = []))
    (hbm : ∃ N, KMap Try.prog 53 cxK w9 mb N BF') (ho3 : Only (fun g => g = mb) w7 w9) :
    Ix w9 W c cm ms mb (delS S k) BF' ∧ Only (IxB c ms mb BF) w3 w9 ∧ ∀ g, IxB c ms mb BF' g → IxB c ms mb BF g := by
  have hvap := h.ap z v hv
  have hvB : ∀ g, v.ownBlock = some g → IxB c ms mb BF g := fun g hg' => .inr (.inr (.inr ⟨z, v, hv, hg'⟩))
  have hoAll : Only (IxB c ms mb BF) w3 w9 := (ho1.mono fun g e => by
    rcases e with e | e
    · exact .inr (.inl e)
    · exact hvB g e).trans (ho3.mono fun g e => .inr (.inr (.inl e)))
  have ho13 : Only (fun g => (g = ms ∨ v.ownBlock = some g) ∨ g = mb) w3 w9 := (ho1.mono fun g e => .inl e).trans (ho3.mono fun g e => .inr e)
  have old : ∀ y vy, BF' y = some vy → y ≠ z → BF y = some vy := fun y vy hy hyz => by
    rcases hBF with ⟨rfl, _⟩ | ⟨rfl, _⟩
    · unfold putV at hy; rw [if_neg hyz] at hy; exact hy
    · unfold delV at hy; rw [if_neg hyz] at hy; exact hy
  have atz : ∀ vz, BF' z = some vz → vz.ownBlock = v.ownBlock := fun vz hz => by
    rcases hBF with ⟨rfl, _, h1, _⟩ | ⟨rfl, _⟩
    · unfold putV at hz; rw [if_pos rfl] at hz; injection hz with hz; subst hz; exact h1
    · unfold delV at hz; rw [if_pos rfl] at hz; cases hz
  refine ⟨⟨?_, ?_, hbm, fun y vy hy => ?_, fun y hy j => ?_, fun y y' vy vy' g hy hy' h1 h2 => ?_, fun y vy hy => ?_, h.lo, h.df, fun j y hj => ?_⟩, hoAll, fun g hg' => ?_⟩
  · refine h.blk.only ho13 ?_
    rintro ((e | e) | e)
    · exact h.df.1 e
    · exact hvap.1 e
    · exact h.df.2.1 e
  · obtain ⟨N, hN⟩ := hsm
    refine ⟨N, ?_⟩
    rw [show (fun j => (delS S k j).map cxV) = fun j => if j = k then none else (S j).map cxV from by
      funext j
      unfold delS
      by_cases e : j = k
      · rw [if_pos e, if_pos e]; rfl
      · rw [if_neg e, if_neg e]]
    exact hN.only ho3 h.df.2.2
  · by_cases e : y = z
    · subst e
      rcases hBF with ⟨rfl, h1, h2, h3⟩ | ⟨rfl, _⟩
      · unfold putV at hy
        rw [if_pos rfl] at hy
        injection hy with hy
        subst hy
        refine ⟨_, h1, hg.del hk, ?_⟩
        have hc := cn_at hg.1 (hg.mem hk)
        have hcl := (List.getElem?_eq_some_iff.1 hc).1
        rw [show (l.take (cn k.1 l) ++ l.drop (cn k.1 l + 1)).length = l.length - 1 from by rw [List.length_append, List.length_take, List.length_drop]; omega]
        exact own_keep h3 ho3 fun g hg' e => hvap.2.2 (by rw [← h2, hg', e])
      · unfold delV at hy; rw [if_pos rfl] at hy; cases hy
    · have hy0 := old y vy hy e
      obtain ⟨ly, h1, h2, h3⟩ := h.row y vy hy0
      refine ⟨ly, h1, h2.keep hk e, own_keep h3 ho13 fun g hg' e2 => ?_⟩
      rcases e2 with (e2 | e2) | e2
      · exact (h.ap y vy hy0).2.1 (by rw [hg', e2])
      · exact e (h.inj y z vy v g hy0 hv hg' e2)
      · exact (h.ap y vy hy0).2.2 (by rw [hg', e2])
  · unfold delS
    by_cases e2 : j = k
    · rw [if_pos e2]; intro e3; cases e3
    · rw [if_neg e2]
      by_cases e : y = z
      · subst e
        intro e3
        rcases hBF with ⟨rfl, _⟩ | ⟨rfl, h1⟩
        · unfold putV at hy; rw [if_pos rfl] at hy; cases hy
        · have h9 : j.1 ∈ l.take (cn k.1 l) ++ l.drop (cn k.1 l + 1) := (del_mem hg.1 (hg.mem hk) j.1).2 ⟨hg.mem e3, fun e4 => e2 (Subtype.ext e4)⟩
          rw [h1] at h9; cases h9
      · rcases hBF with ⟨rfl, _⟩ | ⟨rfl, _⟩
        · unfold putV at hy; rw [if_neg e] at hy; exact h.non y hy j
        · unfold delV at hy; rw [if_neg e] at hy; exact h.non y hy j
  · by_cases e : y = z
    · by_cases e' : y' = z
      · rw [e, e']
      · subst e
        rw [atz vy hy] at h1
        exact h.inj y y' v vy' g hv (old y' vy' hy' e') h1 h2
    · by_cases e' : y' = z
      · subst e'
        rw [atz vy' hy'] at h2
        exact h.inj y y' vy v g (old y vy hy e) hv h1 h2
      · exact h.inj y y' vy vy' g (old y vy hy e) (old y' vy' hy' e') h1 h2
  · by_cases e : y = z
    · subst e; rw [atz vy hy]; exact hvap
    · exact h.ap y vy (old y vy hy e)
  · unfold delS at hj
    by_cases e : j = k
    · rw [if_pos e] at hj; cases hj
    · rw [if_neg e] at hj; exact h.dom j y hj
  · rcases hg' with hg' | hg' | hg' | ⟨y, vy, hy, hg'⟩
    · exact .inl hg'
    · exact .inr (.inl hg')
    · exact .inr (.inr (.inl hg'))
    · by_cases e : y = z
      · subst e; rw [atz vy hy] at hg'; exact hvB g hg'
      · exact .inr (.inr (.inr ⟨y, vy, old y vy hy e, hg'⟩))
end
section
variable {w : World} {Wx cm cx : Nat} {S : Ki → Option Cx} {Bx : Nat → Prop}
def DropIs (w : World) (Wx cm cx : Nat) (S : Ki → Option Cx) (Bx : Nat → Prop) (k : Ki) (e : Ending) (w' : World) : Prop :=
  (S k = none ∧ e = .returned (.int .i64 23) ∧ w = w') ∨ ((S k).isSome = true ∧ e = .returned (.int .i64 0) ∧ XmTo w w' Wx cx cm (delS S k) Bx)
set_option maxRecDepth 100000 in
set_option maxHeartbeats 8000000 in
theorem xdrop (hx : Xm w Wx cx cm S Bx) (k : Int) (hk : (Lit.int .i64 k).wf = true) :
    Calls Try.prog 11 #[.pointer (some ⟨cx, 0, none⟩), .int .i64 k] w (DropIs w Wx cm cx S Bx ⟨k, hk⟩) := by
  obtain ⟨ms, mb, BF, hx, rfl⟩ := hx
  have HX := Lib.hid hx
  have c1 := (hx.blk.cell 1).trans rfl
  obtain ⟨N, hN⟩ := hx.sm
  have hlk : (Instr.lookup 71 (.map (some ms)) (.int .i64 k) true).run Try.prog w = _ := hN.look true (t := 71) Try.underlying71 (zeroC w) ⟨k, hk⟩
  clear hx
  cases hs : S ⟨k, hk⟩ with
  | none =>
    have HS := Lib.hid hs
    replace hlk : (Instr.lookup 71 (.map (some ms)) (.int .i64 k) true).run Try.prog w = .ok (.tuple #[.complex .f64 0 0, .bool false]) w := by rw [hlk, hs]; rfl
    clear hs hN
    go_enter Try.func11, Try.ntmps11
    go_wp2
    go_ret
    exact .inl ⟨HS.out, rfl, rfl⟩
  | some z =>
    have HS := Lib.hid hs
    obtain ⟨zv, hzv⟩ : ∃ zv, cxV z = zv := ⟨_, rfl⟩
    replace hlk : (Instr.lookup 71 (.map (some ms)) (.int .i64 k) true).run Try.prog w = .ok (.tuple #[zv, .bool true]) w := by rw [hlk, hs, ← hzv]; rfl
    have HZV := Lib.hid hzv
    obtain ⟨w4, hr4, hk4, ht4⟩ := hN.drop (t := 71) Try.underlying71 ⟨k, hk⟩ 0
    have ho4 : Only (fun g => g = ms) w w4 := (Only.refl _ w).turned ht4 (.inl rfl)
    have hr4 : (Builtin.delete_ #[71, 3] 0 #[.map (some ms), .int .i64 k]).run Try.prog w = .ok (.tuple #[]) w4 := hr4
    have HK4 := Lib.hid hk4
    have HO4 := Lib.hid ho4
    have hne : BF z ≠ none := fun e => HX.out.non z e ⟨k, hk⟩ hs
    obtain ⟨v, hv⟩ := Option.ne_none_iff_exists'.1 hne
    obtain ⟨l, _, hgr, hown⟩ := HX.out.row z v hv
    obtain ⟨hv1, hv2, hv3⟩ := HX.out.ap z v hv
    obtain ⟨M, hM⟩ := HX.out.bm
    have hM4 := hM.only ho4 (fun e => HX.out.df.2.2 e.symm)
    have hlk2 := hM4.look false (t := 72) Try.underlying72 (zeroL w4) z
    replace hlk2 : (Instr.lookup 72 (.map (some mb)) zv false).run Try.prog w4 = .ok v w4 := by rw [← hzv]; refine Eq.trans hlk2 ?_; rw [hv]; rfl
    have hblk4 := HX.out.blk.only ho4 HX.out.df.1
    have c2 := (hblk4.cell 2).trans rfl
    have HO := Lib.hid (own_keep hown ho4 fun g hg e => hv2 (by rw [hg, e]))
    have HV := Lib.hid hv
    have HGR := Lib.hid hgr
    have HM4 := Lib.hid hM4
    have HBK := Lib.hid hblk4
    have hll : l.length ≤ 1000 := rise_len hgr.1 (n := 1000) fun x hx => by
      obtain ⟨h, e⟩ := (hgr.2 x).1 hx
      exact HX.out.dom _ _ e
    have hc := cn_at hgr.1 (hgr.mem hs)
    have hcl := (List.getElem?_eq_some_iff.1 hc).1
    clear hs hN hzv hk4 ht4 hne hv hown hgr hM hM4 hblk4 hc
    go_enter Try.func11, Try.ntmps11
    go_wp2_with fail
    refine (bs_own Wx 3 v l k w4 HO.out HGR.out.1 (by omega)).mono ?_; rintro e w5 ⟨rfl, q, rfl⟩
    obtain ⟨i, hi⟩ : ∃ i, l.countP (· < k) = i := ⟨_, rfl⟩
    rw [hi]
    have hcn : cn (⟨k, hk⟩ : Ki).1 l = i := hi
    rw [hcn] at hcl
    have HI := Lib.hid hcn
    have HK5 := Lib.hid (HK4.out.below (below_drewN (Below.refl _ _) q) HK4.out.lt)
    have HM5 := Lib.hid (HM4.out.below (below_drewN (Below.refl _ _) q) HM4.out.lt)
    have HBK5 := Lib.hid (HBK.out.below (below_drewN (Below.refl _ _) q) HBK.out.lt)
    replace HO := Lib.hid (own_below HO.out (below_drewN (Below.refl _ _) q))
    replace HO4 := Lib.hid (HO4.out.drewN q)
    obtain ⟨j, hj, hj2⟩ : ∃ j : Nat, (i : Int) + 1 = (j : Int) ∧ ((i + 1 : Nat) : Int) = (j : Int) := ⟨i + 1, by simp, rfl⟩
    clear hi hcn hlk hlk2 c1 c2 hr4 HK4 HM4 HBK
    generalize w4.drewN q = w5 at *
    have C := del_own Wx 3 v l i w5 HO.out hcl
    rw [hj2] at C
    have CD := Lib.hid C
    clear C hj2
    go_wp2_with fail
    refine CD.out.mono ?_; rintro e w6 ⟨v', rfl, hown', hg6, hvb⟩
    have ho6 : Only (fun g => v.ownBlock = some g) w5 w6 := (Only.refl _ w5).grown hg6 fun g e => .inl e
    have HK6 := Lib.hid (HK5.out.only ho6 hv2)
    have HM6 := Lib.hid (HM5.out.only ho6 hv3)
    have c2 := ((HBK5.out.only ho6 hv1).cell 2).trans rfl
    have HO6 := Lib.hid ((HO4.out.mono fun g e => .inl e).trans (ho6.mono fun g e => .inr e) : Only (fun g => g = ms ∨ v.ownBlock = some g) w w6)
    have HVB := Lib.hid hvb
    have HOW := Lib.hid hown'
    obtain ⟨A, cc, rfl⟩ : ∃ A cc, v' = .slice A (l.length - 1) cc := by
      rcases hown'.2 with ⟨rfl, h0⟩ | ⟨g, cap, cur, rfl, _⟩
      · exact ⟨none, 0, by rw [h0]⟩
      · exact ⟨_, _, rfl⟩
    have hlen : (l.take i ++ l.drop (i + 1)).length = l.length - 1 := by rw [List.length_append, List.length_take, List.length_drop]; omega
    have HLEN := Lib.hid hlen
    clear ho6 hg6 hvb hown' HO HO4 HK5 HM5 HBK5 hlen
    by_cases h1 : l.length = 1
    · have h1' : l.length - 1 = 0 := by omega
      rw [h1']
      rw [h1'] at HVB HOW
      obtain ⟨w9, hr9, hk9, ht9⟩ := HM6.out.drop (t := 72) Try.underlying72 z 0
      have ho9 : Only (fun g => g = mb) w6 w9 := (Only.refl _ w6).turned ht9 (.inl rfl)
      have hr9 : (Builtin.delete_ #[72, 53] 0 #[.map (some mb), zv]).run Try.prog w6 = .ok (.tuple #[]) w9 := by rw [← HZV.out]; exact hr9
      have HEND := Lib.hid (HX.out.del (k := ⟨k, hk⟩) (BF' := delV BF z) (v' := v) HS.out HV.out HGR.out HO6.out ⟨_, HK6.out⟩ (.inr ⟨rfl, by
        rw [HI.out]
        exact List.eq_nil_of_length_eq_zero (by rw [HLEN.out]; omega)⟩) ⟨_, hk9⟩ ho9)
      clear hk9 ht9 ho9 h1 h1'
      go_wp2
      go_ret
      obtain ⟨e1, e2, e3⟩ := HEND.out
      exact .inr ⟨by rw [HS.out]; rfl, rfl, _, ⟨ms, mb, _, e1, rfl⟩, e2, fun g hg => .inl (e3 g hg)⟩
    · obtain ⟨m, hm, hm0⟩ : ∃ m, l.length - 1 = m ∧ ¬ m = 0 := ⟨_, rfl, by omega⟩
      have g1 : ((m : Int) == 0) = false := by simp; exact hm0
      have g1' : (m == 0) = false := by simp; exact hm0
      rw [hm] at HVB HOW
      obtain ⟨w9, hr9, hk9, ht9⟩ := HM6.out.store (t := 72) Try.underlying72 z (.slice A m cc)
      have ho9 : Only (fun g => g = mb) w6 w9 := (Only.refl _ w6).turned ht9 (.inl rfl)
      have hr9 : (Instr.mapUpdate 72 (.map (some mb)) zv (.slice A m cc)).run Try.prog w6 = .ok () w9 := by rw [← HZV.out]; exact hr9
      have HEND := Lib.hid (HX.out.del (k := ⟨k, hk⟩) (BF' := putV BF z (.slice A m cc)) (v' := .slice A m cc) HS.out HV.out HGR.out HO6.out ⟨_, HK6.out⟩ (.inl ⟨rfl, by
        rw [HI.out]
        intro e
        have := HLEN.out
        rw [e] at this
        simp at this
        omega, HVB.out, by rw [HI.out, hm]; exact HOW.out⟩) ⟨_, hk9⟩ ho9)
      rw [hm]
      clear hk9 ht9 ho9 h1 hm
      go_wp2
      go_ret
      obtain ⟨e1, e2, e3⟩ := HEND.out
      exact .inr ⟨by rw [HS.out]; rfl, rfl, _, ⟨ms, mb, _, e1, rfl⟩, e2, fun g hg => .inl (e3 g hg)⟩
end
end Go.Proofs.Ytkpngkdkkcadfaa
