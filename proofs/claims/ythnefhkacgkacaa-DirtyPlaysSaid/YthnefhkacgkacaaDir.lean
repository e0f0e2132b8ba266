/- What the functions of package dirty do with a log in memory: contracts. -/
import Derived.Test.YthnefhkacgkacaaRows
import Derived.Test.YthnefhkacgkacaaOnly
import Derived.WalkKit
import Derived.WalkSpells
import Derived.WalkLawsBesides
import Derived.RegionTactic
import Derived.Lib.Hide
namespace Go.Proofs.Ythnefhkacgkacaa
open Go.RowKit Mf

def wd? : Value → Option (DataW Unit × List MemPlace)
  | .int .u64 a => some (.lit (.int .u64 a), [])
  | _ => none

/-- A word as an element. -/
def wdC : Enc Int where
  val := fun x => .int .u64 x
  dat := fun x => .lit (.int .u64 x)
  rd := wd?
  rd_val := fun _ => rfl
  rd_inv := fun v y h => by
    unfold wd? at h
    split at h
    · rename_i a
      cases h
      exact ⟨a, rfl, rfl⟩
    · cases h
  inj := fun e e' h => by simpa using h

abbrev WMap := MapF Try.prog 29 .u64 wdC

theorem keyedU : Go.Maps.Keyed Try.prog 29 := Go.Maps.int_keyed Try.underlying29
theorem zeroU (w : World) : (zeroValue 29).run Try.prog w = .ok (.int .u64 0) w := by kernel_rfl

/-- A log in memory. -/
structure LogAt (w : World) (b mb N : Nat) (on : Bool) (f : Int → Option Int) : Prop where
  blk : Blk w b 48 #[.bool on, .map (some mb)]
  m : WMap w mb N f

section
variable {w w' : World} {b mb N : Nat} {on : Bool} {f : Int → Option Int} {S : Nat → Prop}
theorem LogAt.ne (h : LogAt w b mb N on f) : b ≠ mb := h.blk.not_map h.m
theorem LogAt.only (h : LogAt w b mb N on f) (ho : Only S w w') (hb : ¬ S b) (hmb : ¬ S mb) : LogAt w' b mb N on f := ⟨h.blk.only ho hb, h.m.only ho hmb⟩
theorem LogAt.below (h : LogAt w b mb N on f) (hb : Below w.heap.size w w') : LogAt w' b mb N on f := ⟨h.blk.below hb h.blk.lt, h.m.below hb h.m.lt⟩
theorem LogAt.c0 (h : LogAt w b mb N on f) : w.cell? ⟨b, 0, none⟩ = some (.bool on) := (h.blk.cell 0).trans rfl
theorem LogAt.c1 (h : LogAt w b mb N on f) : w.cell? ⟨b, 1, none⟩ = some (.map (some mb)) := (h.blk.cell 1).trans rfl

theorem LogAt.look (h : LogAt w b mb N on f) {k : Int} (hw : (Lit.int .u64 k).wf = true) :
    (Instr.lookup 46 (.map (some mb)) (.int .u64 k) false).run Try.prog w = .ok (.int .u64 ((f k).getD 0)) w := by
  rw [h.m.look false keyedU Try.underlying29 (t := 46) Try.underlying46 (zeroU w) hw]
  cases f k with
  | none => rfl
  | some x => rfl
end


theorem u64_lit {x : Int} (h : 0 ≤ x ∧ x < 18446744073709551616) : (Lit.int .u64 x).wf = true := by
  simp only [Lit.wf, IntKind.min, IntKind.max, Bool.and_eq_true]
  constructor <;> simp [IntKind.bits, IntKind.signed] <;> omega

/-- Is a page's bit set? -/
def hasB (f : Int → Option Int) (p : Int) : Bool := ((f (p / 64)).getD 0).toNat.testBit (p % 64).toNat

theorem and_one {x : Int} (h : 0 ≤ x ∧ x < 18446744073709551616) : bits .and .u64 x 1 = x % 2 := by
  show IntKind.u64.wrap ((BitVec.ofInt 64 x &&& BitVec.ofInt 64 1).toNat : Int) = _
  have e1 : (BitVec.ofInt 64 1).toNat = 2 ^ 1 - 1 := by decide
  rw [BitVec.toNat_and, e1, Nat.and_two_pow_sub_one_eq_mod, BitVec.toNat_ofInt]
  have e2 : (x % ((2 ^ 64 : Nat) : Int)) = x := Int.emod_eq_of_lt h.1 (by omega)
  rw [e2]
  have e3 : ((x.toNat % 2 ^ 1 : Nat) : Int) = x % 2 := by omega
  rw [e3]
  unfold IntKind.wrap
  simp [IntKind.bits, IntKind.signed]
  omega

theorem bit_is {v : Int} (hv : 0 ≤ v ∧ v < 18446744073709551616) (j : Nat) : (bits .and .u64 (v / 2 ^ j) 1 == 1) = v.toNat.testBit j := by
  obtain ⟨n, rfl⟩ := Int.eq_ofNat_of_zero_le hv.1
  have e0 : ((n : Int) / 2 ^ j) = ((n / 2 ^ j : Nat) : Int) := by simp
  have hle : n / 2 ^ j ≤ n := Nat.div_le_self _ _
  rw [Int.toNat_natCast, Nat.testBit_eq_decide_div_mod_eq, e0]
  generalize n / 2 ^ j = z at *
  rw [and_one (by omega), Bool.eq_iff_iff]
  simp
  omega

set_option maxHeartbeats 400000 in
theorem has_at (b mb N : Nat) (on : Bool) (f : Int → Option Int) (p : Int) (w : World) (h : LogAt w b mb N on f) (hp : 0 ≤ p ∧ p < 18446744073709551616) (hv : 0 ≤ (f (p / 64)).getD 0 ∧ (f (p / 64)).getD 0 < 18446744073709551616) :
    Calls Try.prog 19 #[.pointer (some ⟨b, 0, none⟩), .int .u64 p] w fun e w' => e = .returned (.bool (hasB f p)) ∧ w = w' := by
  have hl := h.look (k := p / 64) (u64_lit (by omega))
  have c0 := h.c0
  have c1 := h.c1
  unfold hasB
  rw [← bit_is hv]
  generalize (f (p / 64)).getD 0 = v at *
  clear h
  go_enter Try.func19, Try.ntmps19
  go_wp2
  go_ret
  exact ⟨rfl, rfl⟩


/-- A word with a bit set, and with it struck. -/
def orW (v : Int) (j : Nat) : Int := bits .or .u64 v (IntKind.u64.wrap (2 ^ j))
def anW (v : Int) (j : Nat) : Int := bits .andNot .u64 v (IntKind.u64.wrap (2 ^ j))

theorem pow_wrap {j : Nat} (hj : j < 64) : IntKind.u64.wrap (2 ^ j) = ((2 ^ j : Nat) : Int) := by
  have h : (2 : Nat) ^ j < 2 ^ 64 := Nat.pow_lt_pow_right (by omega) hj
  have e : ((2 : Int) ^ j) = ((2 ^ j : Nat) : Int) := by simp
  rw [e]
  generalize (2 : Nat) ^ j = z at *
  unfold IntKind.wrap
  simp [IntKind.bits, IntKind.signed]
  omega

theorem ofInt_nat {n : Nat} (h : n < 18446744073709551616) : (BitVec.ofInt 64 (n : Int)).toNat = n := by
  rw [BitVec.toNat_ofInt]; omega

theorem orW_spec {v : Int} (hv : 0 ≤ v ∧ v < 18446744073709551616) {j : Nat} (hj : j < 64) : (0 ≤ orW v j ∧ orW v j < 18446744073709551616) ∧ ∀ i, (orW v j).toNat.testBit i = (v.toNat.testBit i || i == j) := by
  obtain ⟨n, rfl⟩ := Int.eq_ofNat_of_zero_le hv.1
  have hp : (2 : Nat) ^ j < 18446744073709551616 := Nat.lt_of_lt_of_le (Nat.pow_lt_pow_right (by omega) hj) (by decide : (2 : Nat) ^ 64 ≤ 18446744073709551616)
  have e : orW n j = ((n ||| 2 ^ j : Nat) : Int) := by
    unfold orW
    rw [pow_wrap hj]
    show IntKind.u64.wrap ((BitVec.ofInt 64 (n : Int) ||| BitVec.ofInt 64 ((2 ^ j : Nat) : Int)).toNat : Int) = _
    rw [BitVec.toNat_or, ofInt_nat (by omega), ofInt_nat hp]
    have hlt : n ||| 2 ^ j < 2 ^ 64 := Nat.or_lt_two_pow (by omega) (by omega)
    generalize n ||| 2 ^ j = z at *
    unfold IntKind.wrap
    simp [IntKind.bits, IntKind.signed]
    omega
  have hlt : n ||| 2 ^ j < 2 ^ 64 := Nat.or_lt_two_pow (by omega) (by omega)
  rw [e]
  refine ⟨by omega, fun i => ?_⟩
  rw [Int.toNat_natCast, Nat.testBit_or, Nat.testBit_two_pow, Int.toNat_natCast]
  congr 1
  by_cases h : j = i
  · subst h; simp
  · simp [h, Ne.symm h]

theorem anW_spec {v : Int} (hv : 0 ≤ v ∧ v < 18446744073709551616) {j : Nat} (hj : j < 64) : (0 ≤ anW v j ∧ anW v j < 18446744073709551616) ∧ ∀ i, (anW v j).toNat.testBit i = (v.toNat.testBit i && !(i == j)) := by
  obtain ⟨n, rfl⟩ := Int.eq_ofNat_of_zero_le hv.1
  have hp : (2 : Nat) ^ j < 18446744073709551616 := Nat.lt_of_lt_of_le (Nat.pow_lt_pow_right (by omega) hj) (by decide : (2 : Nat) ^ 64 ≤ 18446744073709551616)
  have e : anW n j = (((BitVec.ofInt 64 (n : Int) &&& ~~~(BitVec.ofInt 64 ((2 ^ j : Nat) : Int))).toNat : Nat) : Int) := by
    unfold anW
    rw [pow_wrap hj]
    show IntKind.u64.wrap ((BitVec.ofInt 64 (n : Int) &&& ~~~(BitVec.ofInt 64 ((2 ^ j : Nat) : Int))).toNat : Int) = _
    have hlt := (BitVec.ofInt 64 (n : Int) &&& ~~~(BitVec.ofInt 64 ((2 ^ j : Nat) : Int))).isLt
    generalize (BitVec.ofInt 64 (n : Int) &&& ~~~(BitVec.ofInt 64 ((2 ^ j : Nat) : Int))).toNat = z at *
    unfold IntKind.wrap
    simp [IntKind.bits, IntKind.signed]
    omega
  have hlt := (BitVec.ofInt 64 (n : Int) &&& ~~~(BitVec.ofInt 64 ((2 ^ j : Nat) : Int))).isLt
  rw [e]
  refine ⟨by omega, fun i => ?_⟩
  rw [Int.toNat_natCast, Int.toNat_natCast]
  show (BitVec.ofInt 64 (n : Int) &&& ~~~(BitVec.ofInt 64 ((2 ^ j : Nat) : Int))).getLsbD i = _
  rw [BitVec.getLsbD_and, BitVec.getLsbD_not]
  have e1 : (BitVec.ofInt 64 (n : Int)).getLsbD i = n.testBit i := by
    show (BitVec.ofInt 64 (n : Int)).toNat.testBit i = _
    rw [ofInt_nat (by omega)]
  have e2 : (BitVec.ofInt 64 ((2 ^ j : Nat) : Int)).getLsbD i = (i == j) := by
    show (BitVec.ofInt 64 ((2 ^ j : Nat) : Int)).toNat.testBit i = _
    rw [ofInt_nat hp, Nat.testBit_two_pow]
    by_cases h : j = i
    · subst h; simp
    · simp [h, Ne.symm h]
  rw [e1, e2]
  by_cases hi : i < 64
  · simp [hi]
  · have : n.testBit i = false := Nat.testBit_lt_two_pow (Nat.lt_of_lt_of_le (by omega : n < 2 ^ 64) (Nat.pow_le_pow_right (by omega) (by omega)))
    rw [this]; simp

/-- A log's words tell a set of pages. -/
structure WInv (f : Int → Option Int) (P : Int → Bool) (L : List Int) : Prop where
  bits : ∀ p, 0 ≤ p ∧ p < 18446744073709551616 → hasB f p = P p
  vals : ∀ k, 0 ≤ (f k).getD 0 ∧ (f k).getD 0 < 18446744073709551616
  keys : ∀ k, (f k).isSome = true → 0 ≤ k ∧ k < 288230376151711744
  list : ∀ p, P p = true → p ∈ L
  rng : ∀ p, P p = true → 0 ≤ p ∧ p < 18446744073709551616

theorem winv_new : WInv (fun _ => none) (fun _ => false) [] := ⟨fun p _ => by show (0 : Nat).testBit _ = false; simp, fun _ => ⟨by decide, by decide⟩, (fun _ h => by cases h), (fun _ h => by cases h), (fun _ h => by cases h)⟩

theorem winv_note {f : Int → Option Int} {P : Int → Bool} {L : List Int} (h : WInv f P L) {p : Int} (hp : 0 ≤ p ∧ p < 18446744073709551616) :
    WInv (fun j => if j = p / 64 then some (orW ((f (p / 64)).getD 0) (p % 64).toNat) else f j) (fun q => P q || q == p) (p :: L) := by
  obtain ⟨o1, o2⟩ := orW_spec (h.vals (p / 64)) (j := (p % 64).toNat) (by omega)
  refine ⟨fun q hq => ?_, fun k => ?_, fun k hk => ?_, fun q hq => ?_, fun q hq => ?_⟩
  · have hb := h.bits q hq
    unfold hasB at hb ⊢
    by_cases hk : q / 64 = p / 64
    · rw [hk] at hb
      simp only [hk, if_true, Option.getD_some]
      rw [o2, hb]
      congr 1
      rw [Bool.eq_iff_iff, beq_iff_eq, beq_iff_eq]
      omega
    · simp only [hk, if_false]
      rw [hb]
      have : (q == p) = false := by rw [beq_eq_false_iff_ne]; intro e; subst e; exact hk rfl
      rw [this, Bool.or_false]
  · by_cases hk : k = p / 64
    · simp only [hk, if_true, Option.getD_some]; exact o1
    · simp only [hk, if_false]; exact h.vals k
  · by_cases hkp : k = p / 64
    · omega
    · simp only [hkp, if_false] at hk; exact h.keys k hk
  · simp at hq
    rcases hq with hq | hq
    · exact List.mem_cons_of_mem _ (h.list q hq)
    · subst hq; exact List.mem_cons_self
  · simp at hq
    rcases hq with hq | hq
    · exact h.rng q hq
    · subst hq; exact hp

theorem winv_forget {f f' : Int → Option Int} {P : Int → Bool} {L : List Int} (h : WInv f P L) {p : Int} (hp : 0 ≤ p ∧ p < 18446744073709551616)
    (h1 : (f' (p / 64)).getD 0 = anW ((f (p / 64)).getD 0) (p % 64).toNat) (h2 : ∀ j, j ≠ p / 64 → f' j = f j) : WInv f' (fun q => P q && !(q == p)) L := by
  obtain ⟨o1, o2⟩ := anW_spec (h.vals (p / 64)) (j := (p % 64).toNat) (by omega)
  refine ⟨fun q hq => ?_, fun k => ?_, fun k hk => ?_, fun q hq => ?_, fun q hq => ?_⟩
  · have hb := h.bits q hq
    unfold hasB at hb ⊢
    by_cases hk : q / 64 = p / 64
    · rw [hk] at hb
      rw [hk, h1, o2, hb]
      congr 2
      rw [Bool.eq_iff_iff, beq_iff_eq, beq_iff_eq]
      omega
    · rw [h2 _ hk, hb]
      have : (q == p) = false := by rw [beq_eq_false_iff_ne]; intro e; subst e; exact hk rfl
      rw [this]; simp
  · by_cases hk : k = p / 64
    · subst hk; rw [h1]; exact o1
    · rw [h2 _ hk]; exact h.vals k
  · by_cases hkp : k = p / 64
    · omega
    · rw [h2 _ hkp] at hk; exact h.keys k hk
  · simp at hq; exact h.list q hq.1
  · simp at hq; exact h.rng q hq.1
end Go.Proofs.Ythnefhkacgkacaa
