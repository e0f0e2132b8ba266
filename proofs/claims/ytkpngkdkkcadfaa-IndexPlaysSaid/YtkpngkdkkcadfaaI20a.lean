/- IndexFollows. -/
import Derived.Test.YtkpngkdkkcadfaaIxk
namespace Go.Proofs.Ytkpngkdkkcadfaa
open Go.RowKit Mk

theorem u64_in (n : Nat) (h : n < 2 ^ 64) : IntKind.u64.wrap (n : Int) = (n : Int) := by
  unfold IntKind.wrap
  simp [IntKind.bits, IntKind.signed]
  omega
theorem or_rng (x y : Int) : ∃ n : Nat, bits .or .u64 x y = (n : Int) ∧ n < 2 ^ 64 :=
  ⟨(BitVec.ofInt 64 x ||| BitVec.ofInt 64 y).toNat, u64_in _ (BitVec.isLt _), BitVec.isLt _⟩
theorem xor_one (n : Nat) (h : n < 2 ^ 64) : ∃ m : Nat, bits .xor .u64 (n : Int) 1 = (m : Int) ∧ m < 2 ^ 64 ∧ n ≠ m := by
  refine ⟨(BitVec.ofInt 64 (n : Int) ^^^ BitVec.ofInt 64 1).toNat, u64_in _ (BitVec.isLt _), BitVec.isLt _, fun e => ?_⟩
  have h1 : (BitVec.ofInt 64 (n : Int)).toNat = n := by rw [BitVec.ofInt_natCast, BitVec.toNat_ofNat, Nat.mod_eq_of_lt h]
  have h2 : BitVec.ofInt 64 (n : Int) = BitVec.ofInt 64 (n : Int) ^^^ BitVec.ofInt 64 1 := BitVec.eq_of_toNat_eq (by rw [h1]; exact e)
  have h3 := congrArg (BitVec.ofInt 64 (n : Int) ^^^ ·) h2
  simp only [← BitVec.xor_assoc, BitVec.xor_self, BitVec.zero_xor] at h3
  exact absurd h3 (by decide)
theorem putB_diff {g g' : Nat → Nat} {a b : Nat} (ha : a < 2 ^ 64) (hb : b < 2 ^ 64) (hab : a ≠ b) : ¬ ∀ j, j < 4096 → putB g 8 8 a j = putB g' 8 8 b j := by
  intro h
  have h0 := h 8 (by omega)
  have h1 := h 9 (by omega)
  have h2 := h 10 (by omega)
  have h3 := h 11 (by omega)
  have h4 := h 12 (by omega)
  have h5 := h 13 (by omega)
  have h6 := h 14 (by omega)
  have h7 := h 15 (by omega)
  simp [putB] at h0 h1 h2 h3 h4 h5 h6 h7
  omega
theorem putB_lt {g : Nat → Nat} (hg : ∀ j, g j < 256) (a s v : Nat) (j : Nat) : putB g a s v j < 256 := by
  unfold putB
  split
  · exact Nat.mod_lt _ (by omega)
  · exact hg j
/-- One frame alone is in. -/
def Sone (f : Nat) (z : Cx) : Ki → Option Cx := fun k => if k.1 = (f : Int) then some z else none
theorem sone_put (f : Nat) (hf : (Lit.int .i64 (f : Int)).wf = true) (z : Cx) : putS S0 ⟨f, hf⟩ z = Sone f z := by
  funext k
  unfold putS Sone S0
  have : k = ⟨(f : Int), hf⟩ ↔ k.1 = (f : Int) := Subtype.ext_iff
  by_cases h : k.1 = (f : Int)
  · rw [if_pos h, if_pos (this.2 h)]
  · rw [if_neg h, if_neg (fun e => h (this.1 e))]
theorem sone_del (f : Nat) (hf : (Lit.int .i64 (f : Int)).wf = true) (z : Cx) : delS (Sone f z) ⟨f, hf⟩ = S0 := by
  funext k
  unfold delS Sone S0
  have : k = ⟨(f : Int), hf⟩ ↔ k.1 = (f : Int) := Subtype.ext_iff
  by_cases h : k.1 = (f : Int)
  · rw [if_pos (this.2 h)]
  · rw [if_neg (fun e => h (this.1 e)), if_neg h]
theorem sone_hit {G : Int → Nat → Nat} {f : Nat} {z : Cx} {g : Nat → Nat} {nt k : Int} (h : Hit G (Sone f z) g nt k) : k = f ∧ z = dig g ∧ k ≠ nt ∧ ∀ j, j < 4096 → G f j = g j := by
  obtain ⟨⟨hk, e⟩, h2, h3⟩ := h
  unfold Sone at e
  by_cases h : k = (f : Int)
  · subst h
    rw [if_pos rfl] at e
    exact ⟨rfl, Option.some.inj e, h2, h3⟩
  · rw [if_neg h] at e; cases e
theorem hit_sone {G : Int → Nat → Nat} {f : Nat} (hf : (Lit.int .i64 (f : Int)).wf = true) {nt : Int} (hn : (f : Int) ≠ nt) : Hit G (Sone f (dig (G f))) (G f) nt f := ⟨⟨hf, if_pos rfl⟩, hn, fun _ _ => rfl⟩
def pgA (a : Nat) : Nat → Nat := putB (fun _ => 0) 8 8 a
def gA (f a : Nat) : Int → Nat → Nat := wrF G0 f (pgA a)
def gB (f a b : Nat) : Int → Nat → Nat := wrF (gA f a) f (putB (pgA a) 8 8 b)
theorem gA_at (f a : Nat) : gA f a f = pgA a := if_pos rfl
theorem gB_at (f a b : Nat) : gB f a b f = putB (pgA a) 8 8 b := if_pos rfl
theorem gA_w (f a : Nat) : wrF G0 f (putB (G0 f) 8 8 a) = gA f a := rfl
theorem gB_w (f a b : Nat) : wrF (gA f a) f (putB (gA f a f) 8 8 b) = gB f a b := by rw [gA_at]; rfl
theorem pgA_lt (a j : Nat) : pgA a j < 256 := putB_lt (fun _ => by omega) _ _ _ _
set_option maxRecDepth 100000 in
set_option maxHeartbeats 8000000 in
theorem indexFollows_walk (a0 a1 a2 : Int) (w : World) : Calls Try.prog 3 #[.int .i64 a0, .int .u64 a1, .int .u64 a2] w fun e w' => e = .returned (.bool true) ∧ Below w.heap.size w w' := by
  obtain ⟨f, hf, hf12⟩ : ∃ f : Nat, (a0.tmod 12 + 12) % 12 = (f : Int) ∧ f < 12 := ⟨((a0.tmod 12 + 12) % 12).toNat, by omega, by omega⟩
  have ht : -11 ≤ a0.tmod 12 ∧ a0.tmod 12 ≤ 11 := by
    have h : (a0.tmod 12).natAbs < 12 := by rw [Int.natAbs_tmod]; exact Nat.mod_lt _ (by decide)
    omega
  have hwf : (Lit.int .i64 (f : Int)).wf = true := wf_small (by omega)
  obtain ⟨a, ha, ha64⟩ := or_rng a1 1048576
  obtain ⟨b0, hb0, hb064⟩ := or_rng a2 2097152
  obtain ⟨b1, hb1, hb164, hne⟩ := xor_one b0 hb064
  obtain ⟨y, hy⟩ : ∃ y : Nat, (f : Int) * 4096 = (y : Int) := ⟨f * 4096, by omega⟩
  obtain ⟨x, hx⟩ : ∃ x : Nat, (y : Int) + 8 = (x : Int) := ⟨y + 8, by omega⟩
  have hx' : x = f * 4096 + 8 := by omega
  have HX := Lib.hid (show x = f * 4096 + 8 from hx')
  have HF := Lib.hid hf12
  clear hx'
  by_cases hab : a = b0
  · subst hab
    have HD := Lib.hid (show ¬ ∀ j, j < 4096 → putB (pgA a) 8 8 b1 j = pgA a j from putB_diff hb164 ha64 (Ne.symm hne))
    clear ha64 hb064 hb164 hne
    go_enter Try.func3, Try.ntmps3
    go_wp2_with fail
    refine (kmade w).mono ?_; rintro e w1 ⟨cm, cx, B, rfl, h1, hbb⟩
    have HT := Lib.hid (show Tk w w1 cm cx G0 S0 B from ⟨h1, hbb⟩)
    clear h1 hbb
    go_wp2_with fail
    rw [hf]
    refine (kwrite_ok HT.out.bk (fr := f) (a := 8) (s := 8) (x := x) (.inr rfl) rfl (by omega) HX.out HF.out a).mono ?_; rintro e w2 ⟨rfl, hto⟩
    obtain ⟨B2, ht, _, _⟩ := HT.out.to hto
    replace HT := Lib.hid (show Tk w w2 cm cx (gA f a) S0 B2 from ht)
    clear hto ht
    go_wp2_with fail
    refine (kadd_ok HT.out.bk f hwf (by have := HF.out; omega) rfl).mono ?_; rintro e w3 ⟨rfl, hto⟩
    rw [sone_put] at hto
    obtain ⟨B3, ht, _, _⟩ := HT.out.to hto
    replace HT := Lib.hid (show Tk w w3 cm cx (gA f a) (Sone f (dig (gA f a f))) B3 from ht)
    clear hto ht
    go_wp2_with fail
    refine (kget_ok HT.out.bk f hwf (by have := HF.out; omega)).mono ?_; rintro e w4 ⟨bA, cA, rfl, hp, _, _, hbb⟩
    have HA := Lib.hid hp
    replace HT := Lib.hid (HT.out.fresh hbb)
    clear hp hbb
    go_wp2_with fail
    refine (kfind_yes HT.out.bk HA.out (fun j => HT.out.bk.bytes _ j) (-1) f (hit_sone hwf (by omega)) (fun k hk => by rw [(sone_hit hk).1]; omega)).mono ?_; rintro e w5 ⟨rfl, hbb⟩
    replace HA := Lib.hid (HA.out.below hbb)
    replace HT := Lib.hid (HT.out.fresh hbb)
    clear hbb
    go_wp2_with fail
    refine (kwrite_ok HT.out.bk (fr := f) (a := 8) (s := 8) (x := x) (.inr rfl) rfl (by omega) HX.out HF.out b1).mono ?_; rintro e w6 ⟨rfl, hto⟩
    rw [gB_w] at hto
    obtain ⟨B4, ht, hp, _⟩ := HT.out.to hto
    replace HA := Lib.hid (hp _ _ HA.out)
    replace HT := Lib.hid (show Tk w w6 cm cx (gB f a b1) (Sone f (dig (gA f a f))) B4 from ht)
    clear hto ht hp
    go_wp2_with fail
    refine (kget_ok HT.out.bk f hwf (by have := HF.out; omega)).mono ?_; rintro e w7 ⟨bB, cB, rfl, hp, _, _, hbb⟩
    have HB := Lib.hid hp
    replace HA := Lib.hid (HA.out.below hbb)
    replace HT := Lib.hid (HT.out.fresh hbb)
    clear hp hbb
    go_wp2_with fail
    refine (kfind_no HT.out.bk HA.out (fun j => by rw [gA_at]; exact pgA_lt a j) (-1) (fun k hk => by
      have h9 := (sone_hit hk).2.2.2
      rw [gB_at, gA_at] at h9
      exact HD.out h9)).mono ?_; rintro e w8 ⟨rfl, hbb⟩
    replace HA := Lib.hid (HA.out.below hbb)
    replace HB := Lib.hid (HB.out.below hbb)
    replace HT := Lib.hid (HT.out.fresh hbb)
    clear hbb
    go_wp2_with fail
    refine (kdrop_ok HT.out.bk f hwf (by unfold Sone; rw [if_pos rfl]; rfl)).mono ?_; rintro e w9 ⟨rfl, hto⟩
    rw [sone_del] at hto
    obtain ⟨B5, ht, hp, _⟩ := HT.out.to hto
    replace HA := Lib.hid (hp _ _ HA.out)
    replace HB := Lib.hid (hp _ _ HB.out)
    replace HT := Lib.hid (show Tk w w9 cm cx (gB f a b1) S0 B5 from ht)
    clear hto ht hp
    go_wp2_with fail
    refine (kadd_ok HT.out.bk f hwf (by have := HF.out; omega) rfl).mono ?_; rintro e w10 ⟨rfl, hto⟩
    rw [sone_put] at hto
    obtain ⟨B6, ht, hp, _⟩ := HT.out.to hto
    replace HA := Lib.hid (hp _ _ HA.out)
    replace HB := Lib.hid (hp _ _ HB.out)
    replace HT := Lib.hid (show Tk w w10 cm cx (gB f a b1) (Sone f (dig (gB f a b1 f))) B6 from ht)
    clear hto ht hp
    go_wp2_with fail
    refine (kfind_yes HT.out.bk HB.out (fun j => HT.out.bk.bytes _ j) (-1) f (hit_sone hwf (by omega)) (fun k hk => by rw [(sone_hit hk).1]; omega)).mono ?_; rintro e w11 ⟨rfl, hbb⟩
    replace HA := Lib.hid (HA.out.below hbb)
    replace HB := Lib.hid (HB.out.below hbb)
    replace HT := Lib.hid (HT.out.fresh hbb)
    clear hbb
    go_wp2_with fail
    refine (kfind_no HT.out.bk HA.out (fun j => by rw [gA_at]; exact pgA_lt a j) (-1) (fun k hk => by
      have h9 := (sone_hit hk).2.2.2
      rw [gB_at, gA_at] at h9
      exact HD.out h9)).mono ?_; rintro e w12 ⟨rfl, hbb⟩
    replace HB := Lib.hid (HB.out.below hbb)
    replace HT := Lib.hid (HT.out.fresh hbb)
    clear hbb
    go_wp2_with fail
    refine (kfind_no HT.out.bk HB.out (fun j => HT.out.bk.bytes _ j) f (fun k hk => by
      have h9 := sone_hit hk
      exact h9.2.2.1 h9.1)).mono ?_; rintro e w13 ⟨rfl, hbb⟩
    replace HT := Lib.hid (HT.out.fresh hbb)
    clear hbb HA HB
    go_wp2_with fail
    refine (told_any w13).mono ?_; rintro e w14 ⟨rfl, hbb⟩
    replace HT := Lib.hid (HT.out.fresh hbb)
    clear hbb
    go_wp2
    go_ret
    exact ⟨rfl, HT.out.be⟩
  · have HD := Lib.hid (show ¬ ∀ j, j < 4096 → putB (pgA a) 8 8 b0 j = pgA a j from putB_diff hb064 ha64 (Ne.symm hab))
    have hq : ((a : Int) == (b0 : Int)) = false := by rw [beq_eq_false_iff_ne]; omega
    clear ha64 hb064 hb164 hne hb1 hab
    go_enter Try.func3, Try.ntmps3
    go_wp2_with fail
    refine (kmade w).mono ?_; rintro e w1 ⟨cm, cx, B, rfl, h1, hbb⟩
    have HT := Lib.hid (show Tk w w1 cm cx G0 S0 B from ⟨h1, hbb⟩)
    clear h1 hbb
    go_wp2_with fail
    rw [hf]
    refine (kwrite_ok HT.out.bk (fr := f) (a := 8) (s := 8) (x := x) (.inr rfl) rfl (by omega) HX.out HF.out a).mono ?_; rintro e w2 ⟨rfl, hto⟩
    obtain ⟨B2, ht, _, _⟩ := HT.out.to hto
    replace HT := Lib.hid (show Tk w w2 cm cx (gA f a) S0 B2 from ht)
    clear hto ht
    go_wp2_with fail
    refine (kadd_ok HT.out.bk f hwf (by have := HF.out; omega) rfl).mono ?_; rintro e w3 ⟨rfl, hto⟩
    rw [sone_put] at hto
    obtain ⟨B3, ht, _, _⟩ := HT.out.to hto
    replace HT := Lib.hid (show Tk w w3 cm cx (gA f a) (Sone f (dig (gA f a f))) B3 from ht)
    clear hto ht
    go_wp2_with fail
    refine (kget_ok HT.out.bk f hwf (by have := HF.out; omega)).mono ?_; rintro e w4 ⟨bA, cA, rfl, hp, _, _, hbb⟩
    have HA := Lib.hid hp
    replace HT := Lib.hid (HT.out.fresh hbb)
    clear hp hbb
    go_wp2_with fail
    refine (kfind_yes HT.out.bk HA.out (fun j => HT.out.bk.bytes _ j) (-1) f (hit_sone hwf (by omega)) (fun k hk => by rw [(sone_hit hk).1]; omega)).mono ?_; rintro e w5 ⟨rfl, hbb⟩
    replace HA := Lib.hid (HA.out.below hbb)
    replace HT := Lib.hid (HT.out.fresh hbb)
    clear hbb
    go_wp2_with fail
    refine (kwrite_ok HT.out.bk (fr := f) (a := 8) (s := 8) (x := x) (.inr rfl) rfl (by omega) HX.out HF.out b0).mono ?_; rintro e w6 ⟨rfl, hto⟩
    rw [gB_w] at hto
    obtain ⟨B4, ht, hp, _⟩ := HT.out.to hto
    replace HA := Lib.hid (hp _ _ HA.out)
    replace HT := Lib.hid (show Tk w w6 cm cx (gB f a b0) (Sone f (dig (gA f a f))) B4 from ht)
    clear hto ht hp
    go_wp2_with fail
    refine (kget_ok HT.out.bk f hwf (by have := HF.out; omega)).mono ?_; rintro e w7 ⟨bB, cB, rfl, hp, _, _, hbb⟩
    have HB := Lib.hid hp
    replace HA := Lib.hid (HA.out.below hbb)
    replace HT := Lib.hid (HT.out.fresh hbb)
    clear hp hbb
    go_wp2_with fail
    refine (kfind_no HT.out.bk HA.out (fun j => by rw [gA_at]; exact pgA_lt a j) (-1) (fun k hk => by
      have h9 := (sone_hit hk).2.2.2
      rw [gB_at, gA_at] at h9
      exact HD.out h9)).mono ?_; rintro e w8 ⟨rfl, hbb⟩
    replace HA := Lib.hid (HA.out.below hbb)
    replace HB := Lib.hid (HB.out.below hbb)
    replace HT := Lib.hid (HT.out.fresh hbb)
    clear hbb
    go_wp2_with fail
    refine (kdrop_ok HT.out.bk f hwf (by unfold Sone; rw [if_pos rfl]; rfl)).mono ?_; rintro e w9 ⟨rfl, hto⟩
    rw [sone_del] at hto
    obtain ⟨B5, ht, hp, _⟩ := HT.out.to hto
    replace HA := Lib.hid (hp _ _ HA.out)
    replace HB := Lib.hid (hp _ _ HB.out)
    replace HT := Lib.hid (show Tk w w9 cm cx (gB f a b0) S0 B5 from ht)
    clear hto ht hp
    go_wp2_with fail
    refine (kadd_ok HT.out.bk f hwf (by have := HF.out; omega) rfl).mono ?_; rintro e w10 ⟨rfl, hto⟩
    rw [sone_put] at hto
    obtain ⟨B6, ht, hp, _⟩ := HT.out.to hto
    replace HA := Lib.hid (hp _ _ HA.out)
    replace HB := Lib.hid (hp _ _ HB.out)
    replace HT := Lib.hid (show Tk w w10 cm cx (gB f a b0) (Sone f (dig (gB f a b0 f))) B6 from ht)
    clear hto ht hp
    go_wp2_with fail
    refine (kfind_yes HT.out.bk HB.out (fun j => HT.out.bk.bytes _ j) (-1) f (hit_sone hwf (by omega)) (fun k hk => by rw [(sone_hit hk).1]; omega)).mono ?_; rintro e w11 ⟨rfl, hbb⟩
    replace HA := Lib.hid (HA.out.below hbb)
    replace HB := Lib.hid (HB.out.below hbb)
    replace HT := Lib.hid (HT.out.fresh hbb)
    clear hbb
    go_wp2_with fail
    refine (kfind_no HT.out.bk HA.out (fun j => by rw [gA_at]; exact pgA_lt a j) (-1) (fun k hk => by
      have h9 := (sone_hit hk).2.2.2
      rw [gB_at, gA_at] at h9
      exact HD.out h9)).mono ?_; rintro e w12 ⟨rfl, hbb⟩
    replace HB := Lib.hid (HB.out.below hbb)
    replace HT := Lib.hid (HT.out.fresh hbb)
    clear hbb
    go_wp2_with fail
    refine (kfind_no HT.out.bk HB.out (fun j => HT.out.bk.bytes _ j) f (fun k hk => by
      have h9 := sone_hit hk
      exact h9.2.2.1 h9.1)).mono ?_; rintro e w13 ⟨rfl, hbb⟩
    replace HT := Lib.hid (HT.out.fresh hbb)
    clear hbb HA HB
    go_wp2_with fail
    refine (told_any w13).mono ?_; rintro e w14 ⟨rfl, hbb⟩
    replace HT := Lib.hid (HT.out.fresh hbb)
    clear hbb
    go_wp2
    go_ret
    exact ⟨rfl, HT.out.be⟩
end Go.Proofs.Ytkpngkdkkcadfaa
