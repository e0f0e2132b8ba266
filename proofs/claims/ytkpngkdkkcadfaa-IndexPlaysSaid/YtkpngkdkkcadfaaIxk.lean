/- The laws' told. -/
import Derived.Test.YtkpngkdkkcadfaaIxj
import Derived.Test.YtkpngkdkkcadfaaTake
namespace Go.Proofs.Ytkpngkdkkcadfaa
open Go.RowKit Mk

def k0 : Ki := ⟨0, by decide⟩
def k1 : Ki := ⟨1, by decide⟩
def z0 : Cx := dig (fun _ => 0)
def S0 : Ki → Option Cx := fun _ => none
def S1 := putS S0 k0 z0
def S2 := putS S1 k1 z0
def S3 := delS S2 k0
def G0 : Int → Nat → Nat := fun _ _ => 0
def G1 : Int → Nat → Nat := wrF G0 (1 : Nat) (putB (G0 (1 : Nat)) 0 1 3)
theorem S2_iff (k : Ki) (z : Cx) : S2 k = some z ↔ (k.1 = 0 ∨ k.1 = 1) ∧ z0 = z := by
  unfold S2 S1 S0 putS
  have e0 : k = k0 ↔ k.1 = 0 := Subtype.ext_iff
  have e1 : k = k1 ↔ k.1 = 1 := Subtype.ext_iff
  by_cases h1 : k = k1
  · rw [if_pos h1]
    simp [e1.1 h1]
  · rw [if_neg h1]
    by_cases h0 : k = k0
    · rw [if_pos h0]
      simp [e0.1 h0]
    · rw [if_neg h0]
      have := fun e => h1 (e1.2 e)
      have := fun e => h0 (e0.2 e)
      constructor
      · intro e; cases e
      · rintro ⟨e | e, _⟩
        · exact absurd e (by assumption)
        · exact absurd e (by assumption)
theorem S2_none (k : Ki) : (S2 k).isSome = true ↔ k.1 = 0 ∨ k.1 = 1 := by
  constructor
  · intro h
    obtain ⟨z, hz⟩ := Option.isSome_iff_exists.1 h
    exact ((S2_iff k z).1 hz).1
  · intro h
    rw [(S2_iff k z0).2 ⟨h, rfl⟩]; rfl
theorem S1_1 : S1 k1 = none := by
  unfold S1 S0 putS
  rw [if_neg (by unfold k0 k1; intro e; have := congrArg Subtype.val e; simp at this)]
theorem S3_0 : S3 k0 = none := by unfold S3 delS; rw [if_pos rfl]
theorem hit1 (k : Int) : Hit G0 S2 (fun _ => 0) 0 k ↔ k = 1 := by
  constructor
  · rintro ⟨⟨h, e⟩, h2, _⟩
    have := ((S2_iff _ _).1 e).1
    simp only at this
    omega
  · rintro rfl
    exact ⟨⟨by decide, (S2_iff _ _).2 ⟨.inr rfl, rfl⟩⟩, by omega, fun _ _ => rfl⟩
theorem hit2 (k : Int) : ¬ Hit G1 S2 (fun _ => 0) 0 k := by
  rintro ⟨⟨h, e⟩, h2, h3⟩
  have := ((S2_iff _ _).1 e).1
  simp only at this
  obtain rfl : k = 1 := by omega
  have := h3 0 (by omega)
  exact absurd this (by decide)
theorem grp01 : Grp S2 z0 [0, 1] := ⟨by simp, fun x => by
  simp only [List.mem_cons, List.not_mem_nil, or_false]
  constructor
  · rintro (rfl | rfl)
    · exact ⟨by decide, (S2_iff _ _).2 ⟨.inl rfl, rfl⟩⟩
    · exact ⟨by decide, (S2_iff _ _).2 ⟨.inr rfl, rfl⟩⟩
  · rintro ⟨h, e⟩
    exact ((S2_iff _ _).1 e).1⟩
theorem alike01 {ls : List (List Int)} (h : AlikeOf S2 ls) : ls = [[0, 1]] := by
  have h1 : ∀ l ∈ ls, l = [0, 1] := fun l hl => by
    obtain ⟨⟨z, hz⟩, h2⟩ := (h.2 l).1 hl
    cases l with
    | nil => simp at h2
    | cons a l =>
      obtain ⟨h3, e⟩ := (hz.2 a).1 (List.mem_cons_self ..)
      obtain rfl := ((S2_iff _ _).1 e).2
      exact hz.unique grp01
  have h2 : [0, 1] ∈ ls := (h.2 _).2 ⟨⟨z0, grp01⟩, by simp⟩
  match ls, h1, h2, h.1 with
  | [l], h1, _, _ => rw [h1 l (List.mem_cons_self ..)]
  | a :: b :: l, h1, _, hp =>
    have e1 := h1 a (List.mem_cons_self ..)
    have e2 := h1 b (List.mem_cons_of_mem _ (List.mem_cons_self ..))
    have := (List.pairwise_cons.1 hp).1 b (List.mem_cons_self ..)
    rw [e1, e2] at this
    simp at this
theorem keys_two {ks : List Ki} (h : ks.Pairwise (· ≠ ·)) (hm : ∀ k, k ∈ ks ↔ (S2 k).isSome = true) : ks.length = 2 := by
  have hp : ks.Perm [k0, k1] := (List.perm_ext_iff_of_nodup h (by unfold k0 k1; simp)).2 fun k => by
    rw [hm, S2_none]
    simp only [List.mem_cons, List.not_mem_nil, or_false]
    have e0 : k = k0 ↔ k.1 = 0 := Subtype.ext_iff
    have e1 : k = k1 ↔ k.1 = 1 := Subtype.ext_iff
    rw [e0, e1]
  exact hp.length_eq

/-- The book of told; where its first group stands. -/
structure Tk (w wr : World) (cm cx : Nat) (G : Int → Nat → Nat) (S : Ki → Option Cx) (B : Nat → Prop) : Prop where
  bk : Bk wr w.heap.size cm cx G S B
  be : Below w.heap.size w wr
theorem Tk.fresh {w wr w' : World} {cm cx : Nat} {G : Int → Nat → Nat} {S : Ki → Option Cx} {B : Nat → Prop} (h : Tk w wr cm cx G S B) (hb : Below wr.heap.size wr w') : Tk w w' cm cx G S B := ⟨h.bk.below hb, h.be.trans (hb.mono h.be.size)⟩
theorem Tk.to {w wr w' : World} {cm cx : Nat} {G G' : Int → Nat → Nat} {S S' : Ki → Option Cx} {B : Nat → Prop} (h : Tk w wr cm cx G S B) (ht : BkTo wr w' w.heap.size cm cx G' S' B) : ∃ B', Tk w w' cm cx G' S' B' ∧ (∀ b g, PgN wr B b g → PgN w' B' b g) ∧ Only B wr w' := by
  have hb := ht.bel h.be h.bk (Nat.le_refl _)
  obtain ⟨B', h1, h2, h3⟩ := ht.step
  exact ⟨B', ⟨h1, hb⟩, h2, h3⟩
theorem zpage (W : World) : ∃ w2, (Instr.makeSlice 30 (.int .i64 4096) (.int .i64 4096)).run Try.prog W = .ok (.slice (some ⟨W.heap.size, 0, none⟩) 4096 4096) w2 ∧ w2.ownsRow W.heap.size 5 1 (.slice (some ⟨W.heap.size, 0, none⟩) 4096 4096) 4096 (byL (fun _ => 0) 4096) ∧ Below W.heap.size W w2 := by
  obtain ⟨i0, hi0, hz0', hz1, hz2⟩ := info_parts infoY
  obtain ⟨w2, hmk, hown, hg⟩ := run_makeSlice_full (P := Try.prog) W W.heap.size 30 5 i0 (.int .u8 0) 1 Try.underlying30 hi0 hz0' hz1 .i64 .i64 4096 (by omega) (by rw [hz2]; omega) (by unfold maxLen; omega) (Nat.le_refl _)
  rw [made_row _ rfl, byL_zero] at hown
  exact ⟨w2, hmk, hown, (Below.refl _ W).grown hg (Nat.le_refl _) (fun _ e => by cases e)⟩
/-- And a cell beside it. -/
structure Tq (w wr : World) (cm cx : Nat) (G : Int → Nat → Nat) (S : Ki → Option Cx) (B : Nat → Prop) (b0 : Nat) (x : Value) : Prop where
  tk : Tk w wr cm cx G S B
  ce : wr.cell? ⟨b0, 0, none⟩ = some x
  na : ¬ B b0
  lt : b0 < wr.heap.size
theorem Tq.fresh {w wr w' : World} {cm cx b0 : Nat} {G : Int → Nat → Nat} {S : Ki → Option Cx} {B : Nat → Prop} {x : Value} (h : Tq w wr cm cx G S B b0 x) (hb : Below wr.heap.size wr w') : Tq w w' cm cx G S B b0 x :=
  ⟨h.tk.fresh hb, (hb.cell (p := ⟨b0, 0, none⟩) h.lt).trans h.ce, h.na, Nat.lt_of_lt_of_le h.lt hb.size⟩
theorem Tq.to {w wr w' : World} {cm cx b0 : Nat} {G G' : Int → Nat → Nat} {S S' : Ki → Option Cx} {B : Nat → Prop} {x : Value} (h : Tq w wr cm cx G S B b0 x) (ht : BkTo wr w' w.heap.size cm cx G' S' B) : ∃ B', Tq w w' cm cx G' S' B' b0 x := by
  have hb := ht.bel h.tk.be h.tk.bk (Nat.le_refl _)
  obtain ⟨B', h1, h2, h3⟩ := ht
  refine ⟨B', ⟨h1, hb⟩, (h2.cell (p := ⟨b0, 0, none⟩) h.lt h.na).trans h.ce, fun hb => ?_, Nat.lt_of_lt_of_le h.lt h2.size⟩
  rcases h3 b0 hb with h4 | h4
  · exact h.na h4
  · have := h.lt; omega
theorem row_01 (w : World) (base : Nat) (hB : base ≤ w.heap.size) : IRow (w.alloc (.cells #[.int .i64 0, .int .i64 1] 3)) base (.slice (some ⟨w.heap.size, 0, none⟩) 2 2) [0, 1] :=
  World.ownsRow_lit w #[.int .i64 0, .int .i64 1] 2 hB (by unfold maxLen; omega) rfl
/-- The one group. -/
theorem one_group {w : World} {B : Nat} {v : Value} {us : List Gr} (hr : w.ownsRow B 48 1 v us.length (us.map uv)) (hu : ∀ u ∈ us, w.ownsRow B 3 1 (uv u) u.2.1.length (u.2.1.map iv)) {l : List Int} (ha : us.map (·.2.1) = [l]) :
    ∃ b cc gi ci, v = .slice (some ⟨b, 0, none⟩) 1 cc ∧ B ≤ b ∧ b < w.heap.size ∧ w.cell? ⟨b, 0, none⟩ = some (.slice (some ⟨gi, 0, none⟩) l.length ci) ∧ IRow w B (.slice (some ⟨gi, 0, none⟩) l.length ci) l := by
  match us, hr, hu, ha with
  | [u], hr, hu, ha =>
    have e : u.2.1 = l := by simpa using ha
    obtain ⟨b, cc, rfl, _, _⟩ := hr.form (by simp)
    have h2 := hu u (List.mem_cons_self ..)
    have hl := hr.lt b rfl
    refine ⟨b, cc, u.1, u.2.2, rfl, hl.1, hl.2, ?_, ?_⟩
    · have := hr.cellAt 0 (by simp)
      rw [this]
      rw [← e]
      rfl
    · rw [e] at h2
      unfold uv at h2
      rw [e] at h2
      exact h2
set_option maxRecDepth 100000 in
set_option maxHeartbeats 8000000 in
theorem told_any (w : World) : Calls Try.prog 12 #[] w fun e w' => e = .returned (.bool true) ∧ Below w.heap.size w w' := by
  go_enter Try.func12, Try.ntmps12
  go_wp2_with fail
  refine (kmade w).mono ?_; rintro e w1 ⟨cm, cx, B, rfl, h1, hb1⟩
  have HT := Lib.hid (show Tk w w1 cm cx G0 S0 B from ⟨h1, hb1⟩)
  clear h1 hb1
  go_wp2_with fail
  refine (xnone w1).mono ?_; rintro e _ ⟨rfl, rfl⟩
  go_wp2_with fail
  refine (kadd_ok HT.out.bk 0 (by decide) (by omega) rfl).mono ?_; rintro e w2 ⟨rfl, hto⟩
  obtain ⟨B2, ht, _, _⟩ := HT.out.to hto
  replace HT := Lib.hid (show Tk w w2 cm cx G0 S1 B2 from ht)
  clear hto ht
  go_wp2_with fail
  refine (kadd_ok HT.out.bk 1 (by decide) (by omega) S1_1).mono ?_; rintro e w3 ⟨rfl, hto⟩
  obtain ⟨B3, ht, _, _⟩ := HT.out.to hto
  replace HT := Lib.hid (show Tk w w3 cm cx G0 S2 B3 from ht)
  clear hto ht
  go_wp2_with fail
  refine (kadd_there HT.out.bk 1 (by decide) (by omega) ((S2_none _).2 (.inr rfl))).mono ?_; rintro e w4 ⟨rfl, hb⟩
  replace HT := Lib.hid (HT.out.fresh hb)
  clear hb
  go_wp2_with fail
  refine (kadd_range HT.out.bk 12 (by decide) (by omega)).mono ?_; rintro e w5 ⟨rfl, hb⟩
  replace HT := Lib.hid (HT.out.fresh hb)
  clear hb
  go_upto_region 5 with fail
  obtain ⟨w6, hmk, hown, hb⟩ := zpage w5
  have HP := Lib.hid (PgN.new HT.out.bk hown (Nat.le_refl _))
  replace HT := Lib.hid (HT.out.fresh hb)
  clear hb hown
  generalize w5.heap.size = bz at *
  go_wp2_with fail
  refine (kfind_yes HT.out.bk HP.out (fun _ => by decide) 0 1 ((hit1 1).2 rfl) (fun k hk => by rw [(hit1 k).1 hk]; omega)).mono ?_; rintro e w7 ⟨rfl, hb⟩
  replace HP := Lib.hid (HP.out.below hb)
  replace HT := Lib.hid (HT.out.fresh hb)
  clear hb hmk
  go_wp2_with fail
  refine (kwrite_ok HT.out.bk (fr := 1) (a := 0) (s := 1) (x := 4096) (.inl rfl) rfl (by omega) (by omega) (by omega) 3).mono ?_; rintro e w8 ⟨rfl, hto⟩
  obtain ⟨B4, ht, hp, _⟩ := HT.out.to hto
  replace HP := Lib.hid (hp _ _ HP.out)
  replace HT := Lib.hid (show Tk w w8 cm cx G1 S2 B4 from ht)
  clear hto ht hp
  go_wp2_with fail
  refine (kfind_no HT.out.bk HP.out (fun _ => by decide) 0 hit2).mono ?_; rintro e w9 ⟨rfl, hb⟩
  replace HT := Lib.hid (HT.out.fresh hb)
  clear hb HP
  go_wp2_with fail
  refine (kalike HT.out.bk).mono ?_; rintro e w10 ⟨v, us, rfl, hr, hu, ha, hb⟩
  have h01 := alike01 ha
  obtain ⟨b0, cc, gi, ci, rfl, hb0, hb1, hc0, hI⟩ := one_group hr hu h01
  have HL := Lib.hid hI
  have HQ := Lib.hid (show Tq w w10 cm cx G1 S2 B4 b0 (.slice (some ⟨gi, 0, none⟩) 2 ci) from ⟨HT.out.fresh hb, hc0, fun h => by have := (HT.out.bk.lt h).2; omega, hb1⟩)
  clear hr hu ha h01 hb hb0 hb1 hc0 hI HT
  have hC := HQ.out.ce
  go_wp2_with fail
  obtain ⟨wn, hwn⟩ : ∃ x : World, w10.alloc (.cells #[.int .i64 0, .int .i64 1] 3) = x := ⟨_, rfl⟩
  have HRW := Lib.hid (row_01 w10 w10.heap.size (Nat.le_refl _))
  replace HL := Lib.hid (own_below HL.out ((Below.refl _ _).alloc (Nat.le_refl _) (.cells #[.int .i64 0, .int .i64 1] 3)))
  replace HQ := Lib.hid (HQ.out.fresh ((Below.refl _ _).alloc (Nat.le_refl _) (.cells #[.int .i64 0, .int .i64 1] 3)))
  refine (pints HL.out HRW.out (by decide)).mono ?_; rintro e w11 ⟨rfl, q, rfl⟩
  rw [show decide ([(0 : Int), 1] = [0, 1]) = true from by simp]
  rw [hwn] at HQ ⊢
  replace HQ := Lib.hid (HQ.out.fresh (below_drewN (Below.refl _ _) q))
  clear HL HRW hwn hC
  generalize wn.drewN q = wc at *
  go_wp2_with fail
  refine (kcount HQ.out.tk.bk).mono ?_; rintro e _ ⟨ks, rfl, hk1, hk2, rfl⟩
  rw [show ks.length = 2 from keys_two hk1 hk2]
  clear hk1 hk2
  go_wp2_with fail
  refine (khas HQ.out.tk.bk 0 (by decide)).mono ?_; rintro e _ ⟨rfl, rfl⟩
  rw [show (S2 ⟨0, by decide⟩).isSome = true from (S2_none _).2 (.inl rfl)]
  go_wp2_with fail
  refine (kdrop_ok HQ.out.tk.bk 0 (by decide) ((S2_none _).2 (.inl rfl))).mono ?_; rintro e w12 ⟨rfl, hto⟩
  obtain ⟨Bn, ht⟩ := HQ.out.to hto
  replace HQ := Lib.hid (show Tq w w12 cm cx G1 S3 Bn b0 (.slice (some ⟨gi, 0, none⟩) 2 ci) from ht)
  clear hto ht
  go_wp2_with fail
  refine (kdrop_none HQ.out.tk.bk 0 (by decide) S3_0).mono ?_; rintro e _ ⟨rfl, rfl⟩
  go_wp2
  go_ret
  exact ⟨rfl, HQ.out.tk.be⟩
end Go.Proofs.Ytkpngkdkkcadfaa
