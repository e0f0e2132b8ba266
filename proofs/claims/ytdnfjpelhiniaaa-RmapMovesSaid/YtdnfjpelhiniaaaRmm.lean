/- RmapMoves: what lies in memory; the plain law. -/
import Derived.Test.YtdnfjpelhiniaaaRmk
namespace Go.Proofs.Ytdnfjpelhiniaaa
open Go.RowKit Mf

def frC : Enc Int where
  val := fun x => .int .i64 x
  dat := fun x => .lit (.int .i64 x)
  rd := fun v => match v with | .int .i64 a => some (.lit (.int .i64 a), []) | _ => none
  rd_val := fun _ => rfl
  rd_inv := fun v y h => by
    split at h
    · rename_i a
      cases h
      exact ⟨a, rfl, rfl⟩
    · cases h
  inj := fun e e' h => by simpa using h
abbrev AMap := MapG Try.prog 31 plcC frC
theorem zeroI (w : World) : (zeroValue 3).run Try.prog w = .ok (.int .i64 0) w := by kernel_rfl
theorem amap_only {S : Nat → Prop} {w w' : World} {b n : Nat} {f : Plc → Option Int} (h : AMap w b n f) (ho : Only S w w') (hb : ¬ S b) : AMap w' b n f := by
  have hlt := h.lt
  obtain ⟨D, ⟨es, clock, hh, r1⟩, r⟩ := h
  exact ⟨D, ⟨es, clock, (ho.block b hlt hb).trans hh, r1⟩, r⟩

theorem mask3u (x : Int) (h : 0 ≤ x ∧ x < 18446744073709551616) : bits .and .u64 x 3 = x % 4 := by
  show IntKind.u64.wrap ((BitVec.ofInt 64 x &&& BitVec.ofInt 64 3).toNat : Int) = _
  have e1 : (BitVec.ofInt 64 3).toNat = 2 ^ 2 - 1 := by decide
  rw [BitVec.toNat_and, e1, Nat.and_two_pow_sub_one_eq_mod, BitVec.toNat_ofInt]
  have e2 : (x % ((2 ^ 64 : Nat) : Int)) = x := Int.emod_eq_of_lt h.1 (by omega)
  rw [e2]
  have e3 : ((x.toNat % 2 ^ 2 : Nat) : Int) = x % 4 := by omega
  rw [e3]
  unfold IntKind.wrap
  simp [IntKind.bits, IntKind.signed]
  omega
theorem u64_bd {x : Int} (h : (Lit.int .u64 x).wf = true) : 0 ≤ x ∧ x < 18446744073709551616 := by
  simp [Lit.wf, IntKind.min, IntKind.max, IntKind.bits, IntKind.signed] at h
  omega
theorem u64_wf4 (x : Int) : (Lit.int .u64 (x % 4)).wf = true := by
  simp only [Lit.wf, IntKind.min, IntKind.max, Bool.and_eq_true]
  constructor <;> simp [IntKind.bits, IntKind.signed] <;> omega
theorem i64_wf (x : Int) (h : 0 ≤ x ∧ x ≤ 1000) : (Lit.int .i64 x).wf = true := by
  simp only [Lit.wf, IntKind.min, IntKind.max, Bool.and_eq_true]
  constructor <;> simp [IntKind.bits, IntKind.signed] <;> omega

/-- The map of uses, the law's own map of places. -/
structure Mv (w wr : World) (cm ga N M : Nat) (u : Int → Plc → Bool) (B : Nat → Prop) (at_ : Plc → Option Int) : Prop where
  mp : Mp wr w.heap.size cm N u B
  am : AMap wr ga M at_
  na : ¬ B ga
  ge : w.heap.size ≤ ga
  be : Below w.heap.size w wr
section
variable {w wr w' : World} {cm ga N N' M : Nat} {u u' : Int → Plc → Bool} {B : Nat → Prop} {at_ : Plc → Option Int}
theorem Mv.fresh (h : Mv w wr cm ga N M u B at_) (hb : Below wr.heap.size wr w') : Mv w w' cm ga N M u B at_ :=
  ⟨h.mp.below hb, h.am.below hb h.am.lt, h.na, h.ge, h.be.trans (hb.mono h.be.size)⟩
theorem Mv.drewN (h : Mv w wr cm ga N M u B at_) (q : Nat) : Mv w (wr.drewN q) cm ga N M u B at_ := h.fresh (below_drewN (Below.refl _ _) q)
theorem Mv.to (h : Mv w wr cm ga N M u B at_) (ht : MpTo wr w' w.heap.size cm N' u' B) : ∃ B', Mv w w' cm ga N' M u' B' at_ ∧ ∀ g t cs, Blk wr g t cs → ¬ B g → Blk w' g t cs ∧ ¬ B' g := by
  have hb := ht.bel h.be h.mp (Nat.le_refl _)
  obtain ⟨B', h1, h2, h3⟩ := ht
  refine ⟨B', ⟨h1, amap_only h.am h2 h.na, fun hg => ?_, h.ge, hb⟩, fun g t cs k1 k2 => ⟨k1.only h2 k2, fun hg => ?_⟩⟩
  · rcases h3 _ hg with h4 | h4
    · exact h.na h4
    · have := h.am.lt; omega
  · rcases h3 _ hg with h4 | h4
    · exact k2 h4
    · have := k1.lt; omega
theorem Mv.look (h : Mv w wr cm ga N M u B at_) (p : Plc) : (Instr.lookup 47 (.map (some ga)) (.agg #[.int .i64 p.1.1, .int .u64 p.1.2]) true).run Try.prog wr = .ok (match at_ p with | some x => .tuple #[.int .i64 x, .bool true] | none => .tuple #[.int .i64 0, .bool false]) wr := by
  have := h.am.look true keyedP (t := 47) Try.underlying47 (zeroI wr) p
  refine Eq.trans this ?_
  cases at_ p <;> rfl
theorem Mv.look1 (h : Mv w wr cm ga N M u B at_) {p : Plc} {f : Int} (hf : at_ p = some f) : (Instr.lookup 47 (.map (some ga)) (.agg #[.int .i64 p.1.1, .int .u64 p.1.2]) false).run Try.prog wr = .ok (.int .i64 f) wr := by
  have := h.am.look false keyedP (t := 47) Try.underlying47 (zeroI wr) p
  refine Eq.trans this ?_
  rw [hf]; rfl
theorem Mv.store (h : Mv w wr cm ga N M u B at_) (hM : M < maxLen) (p : Plc) (f : Int) :
    ∃ w', (Instr.mapUpdate 47 (.map (some ga)) (.agg #[.int .i64 p.1.1, .int .u64 p.1.2]) (.int .i64 f)).run Try.prog wr = .ok () w' ∧ Mv w w' cm ga N (M + 1) u B (fun q => if q = p then some f else at_ q) := by
  obtain ⟨w', hr, hm, ht⟩ := h.am.store keyedP (t := 47) Try.underlying47 hM p f
  have ho : Only (fun g => g = ga) wr w' := (Only.refl _ wr).turned ht (.inl rfl)
  exact ⟨w', hr, h.mp.apart ho fun g hg e => h.na (e ▸ hg), hm, h.na, h.ge, h.be.trans (ho.to_below (fun k e => by rw [e]; exact h.ge) h.be.size)⟩
end

/-- The uses are those of the places' last frames. -/
def MvI (u : Int → Plc → Bool) (at_ : Plc → Option Int) : Prop := (∀ k p, u k p = true ↔ at_ p = some k) ∧ ∀ p k, at_ p = some k → 0 ≤ k ∧ k < 8
theorem MvI.zero : MvI (fun _ _ => false) (fun _ => none) := ⟨fun k p => ⟨fun h => (by cases h), fun h => (by cases h)⟩, fun p k h => (by cases h)⟩
/-- A place's use is gone. -/
def MvD (u : Int → Plc → Bool) (at_ : Plc → Option Int) (p : Plc) : Prop := ∀ k q, u k q = true ↔ at_ q = some k ∧ q ≠ p
section
variable {u : Int → Plc → Bool} {at_ : Plc → Option Int} {p : Plc}
theorem MvI.none_ (h : MvI u at_) (hp : at_ p = none) : MvD u at_ p := fun k q => by
  rw [h.1 k q]
  exact ⟨fun h1 => ⟨h1, fun e => by rw [e, hp] at h1; cases h1⟩, fun h1 => h1.1⟩
theorem MvI.dropE (h : MvI u at_) {o : Int} (hp : at_ p = some o) : dropE u o p = 0 := by
  unfold Go.Proofs.Ytdnfjpelhiniaaa.dropE
  rw [if_pos ((h.1 o p).2 hp)]
theorem MvI.drop (h : MvI u at_) {o : Int} (hp : at_ p = some o) : MvD (dropU u o p) at_ p := fun k q => by
  unfold dropU
  by_cases e : k = o ∧ q = p
  · rw [if_pos e]
    exact ⟨fun h => (by cases h), fun h => absurd e.2 h.2⟩
  · rw [if_neg e, h.1 k q]
    constructor
    · intro h1
      refine ⟨h1, fun e2 => ?_⟩
      subst e2
      rw [hp] at h1
      injection h1 with h1
      exact e ⟨h1.symm, rfl⟩
    · exact fun h1 => h1.1
theorem MvD.addE (h : MvD u at_ p) {f : Int} (hf : 0 ≤ f) : addE u f p = 0 := by
  unfold Go.Proofs.Ytdnfjpelhiniaaa.addE
  rw [if_neg (by omega), if_neg]
  intro h1
  exact ((h f p).1 h1).2 rfl
theorem MvD.add (h : MvD u at_ p) (ha : ∀ p k, at_ p = some k → 0 ≤ k ∧ k < 8) {f : Int} (hf : 0 ≤ f ∧ f < 8) : MvI (addU u f p) (fun q => if q = p then some f else at_ q) := by
  refine ⟨fun k q => ?_, fun q k hq => ?_⟩
  · show addU u f p k q = true ↔ (if q = p then some f else at_ q) = some k
    unfold addU
    rw [if_neg (by omega)]
    by_cases e : q = p
    · subst e
      rw [if_pos rfl]
      by_cases e2 : k = f
      · simp [e2]
      · rw [if_neg (fun h => e2 h.1), h k q]
        constructor
        · exact fun h1 => absurd rfl h1.2
        · intro h1; injection h1 with h1; exact absurd h1.symm e2
    · rw [if_neg (fun h => e h.2), if_neg e, h k q]
      exact ⟨fun h1 => h1.1, fun h1 => ⟨h1, e⟩⟩
  · have hq : (if q = p then some f else at_ q) = some k := hq
    by_cases e : q = p
    · rw [if_pos e] at hq; injection hq with hq; omega
    · rw [if_neg e] at hq; exact ha q k hq
end

/-- The places of the first frames, together. -/
def MvL (at_ : Plc → Option Int) (fs : List Int) (j : Nat) (L : List Plc) : Prop := L.Pairwise (· ≠ ·) ∧ ∀ p, p ∈ L ↔ ∃ k, at_ p = some k ∧ k ∈ fs.take j
theorem MvL.zero (at_ : Plc → Option Int) (fs : List Int) : MvL at_ fs 0 [] := ⟨List.Pairwise.nil, fun p => by simp⟩
theorem MvL.step {u : Int → Plc → Bool} {at_ : Plc → Option Int} {fs : List Int} {j : Nat} {L ts : List Plc} {f : Int} (h : MvL at_ fs j L) (hI : MvI u at_) (hs : fs.Pairwise (· < ·)) (hf : fs[j]? = some f) (ht : PlacesOf (u f) ts) : MvL at_ fs (j + 1) (L ++ ts) := by
  have htk : fs.take (j + 1) = fs.take j ++ [f] := by rw [List.take_add_one, hf]; rfl
  have hnf : f ∉ fs.take j := fun hm => by
    obtain ⟨h1, rfl⟩ := List.getElem?_eq_some_iff.1 hf
    obtain ⟨i, hi, e⟩ := List.getElem_of_mem hm
    rw [List.getElem_take] at e
    have hi' : i < j := by simp at hi; omega
    have := List.pairwise_iff_getElem.1 hs i j (by omega) h1 hi'
    omega
  refine ⟨?_, fun p => ?_⟩
  · rw [List.pairwise_append]
    refine ⟨h.1, ht.1.imp fun {a b} hab e => by subst e; rw [plt_iff] at hab; omega, fun a ha b hb e => ?_⟩
    subst e
    obtain ⟨k, h1, h2⟩ := (h.2 a).1 ha
    have h3 := (hI.1 f a).1 ((ht.2 a).1 hb)
    rw [h1] at h3
    injection h3 with h3
    subst h3
    exact hnf h2
  · rw [List.mem_append, h.2 p, ht.2 p, hI.1 f p, htk]
    constructor
    · rintro (⟨k, h1, h2⟩ | h1)
      · exact ⟨k, h1, List.mem_append_left _ h2⟩
      · exact ⟨f, h1, by simp⟩
    · rintro ⟨k, h1, h2⟩
      rcases List.mem_append.1 h2 with h3 | h3
      · exact .inl ⟨k, h1, h3⟩
      · rw [List.mem_singleton] at h3; subst h3; exact .inr h1
theorem MvL.all {u : Int → Plc → Bool} {at_ : Plc → Option Int} {fs : List Int} {L ks : List Plc} (h : MvL at_ fs fs.length L) (hI : MvI u at_) (hf : FramesOf u fs) (hk : ks.Pairwise (· ≠ ·)) (hk2 : ∀ p, p ∈ ks ↔ (at_ p).isSome = true) : L.length = ks.length := by
  have h1 : ∀ p, p ∈ L ↔ p ∈ ks := fun p => by
    rw [h.2 p, hk2 p, List.take_length]
    constructor
    · rintro ⟨k, h1, _⟩; rw [h1]; rfl
    · intro h1
      obtain ⟨k, hk⟩ := Option.isSome_iff_exists.1 h1
      exact ⟨k, hk, (hf.2 k).2 ⟨p, (hI.1 k p).2 hk⟩⟩
  have e1 := sub_len' h.1 (fun p hp => (h1 p).1 hp)
  have e2 := sub_len' hk (fun p hp => (h1 p).2 hp)
  omega
theorem MvL.le {w wr : World} {cm ga N M j : Nat} {u : Int → Plc → Bool} {B : Nat → Prop} {at_ : Plc → Option Int} {fs : List Int} {L : List Plc} (h : MvL at_ fs j L) (hM : Mv w wr cm ga N M u B at_) : L.length ≤ M := by
  obtain ⟨ks, _, hks, hkl, _⟩ := hM.am.keys keyedP (t := 47) Try.underlying47
  have := sub_len' (m := ks) h.1 (fun p hp => by
    obtain ⟨k, hk, _⟩ := (h.2 p).1 hp
    rw [hks p, hk]; rfl)
  omega
end Go.Proofs.Ytdnfjpelhiniaaa
