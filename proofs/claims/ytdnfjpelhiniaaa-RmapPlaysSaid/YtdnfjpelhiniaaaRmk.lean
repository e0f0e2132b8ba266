/- The laws' steps, opened; two maps of uses. -/
import Derived.Test.YtdnfjpelhiniaaaRmj
import Derived.Test.YtdnfjpelhiniaaaOps
import Derived.Test.YtdnfjpelhiniaaaMask
namespace Go.Proofs.Ytdnfjpelhiniaaa
open Go.RowKit Mf

abbrev opK : List CK := [.i .i64, .i .i64, .i .i64, .i .u64]
/-- One step. -/
structure OpV where
  kd : Int
  fr : Int
  p : Plc
  wk : (Lit.int .i64 kd).wf = true
  wf : (Lit.int .i64 fr).wf = true
/-- Step i is among the cells. -/
def OpIs (xs : List Value) (i : Nat) (o : OpV) : Prop := xs[i * 4]? = some (.int .i64 o.kd) ∧ xs[i * 4 + 1]? = some (.int .i64 o.fr) ∧ xs[i * 4 + 2]? = some (.int .i64 o.p.1.1) ∧ xs[i * 4 + 3]? = some (.int .u64 o.p.1.2)
theorem ops_fn {m : Nat} {xs : List Value} (hl : xs.length = m * 4) (hx : CellsR opK xs) : ∃ O : Nat → OpV, ∀ i, i < m → OpIs xs i (O i) := by
  have h1 : ∀ i, ∃ o : OpV, i < m → OpIs xs i o := fun i => by
    by_cases hi : i < m
    · obtain ⟨kd, a0, b0⟩ := hx.int (j := i * 4 + 0) (k := .i64) (by omega) (kind_at (ks := opK) (q := 0) (by decide) rfl)
      obtain ⟨fr, a1, b1⟩ := hx.int (j := i * 4 + 1) (k := .i64) (by omega) (kind_at (ks := opK) (q := 1) (by decide) rfl)
      obtain ⟨g, a2, b2⟩ := hx.int (j := i * 4 + 2) (k := .i64) (by omega) (kind_at (ks := opK) (q := 2) (by decide) rfl)
      obtain ⟨p, a3, b3⟩ := hx.int (j := i * 4 + 3) (k := .u64) (by omega) (kind_at (ks := opK) (q := 3) (by decide) rfl)
      exact ⟨⟨kd, fr, ⟨(g, p), b2, b3⟩, b0, b1⟩, fun _ => ⟨a0, a1, a2, a3⟩⟩
    · exact ⟨⟨0, 0, pa, by decide, by decide⟩, fun h => absurd h hi⟩
  exact ⟨fun i => Classical.choose (h1 i), fun i => Classical.choose_spec (h1 i)⟩
theorem op_cells {w : World} {B m : Nat} {A : Option Addr} {xs : List Value} {O : Nat → OpV} (hr : Reads w B 4 A m xs) (hO : ∀ i, i < m → OpIs xs i (O i)) {i : Nat} (hi : i < m) :
    ∃ ad, A = some ad ∧ ad.block < B ∧ w.cell? (ad.add (i * 4)) = some (.int .i64 (O i).kd) ∧ w.cell? ⟨(ad.add (i * 4)).block, (ad.add (i * 4)).off + 1, none⟩ = some (.int .i64 (O i).fr) ∧ w.cell? ⟨(ad.add (i * 4)).block, (ad.add (i * 4)).off + 2, none⟩ = some (.int .i64 (O i).p.1.1) ∧ w.cell? ⟨(ad.add (i * 4)).block, (ad.add (i * 4)).off + 2 + 1, none⟩ = some (.int .u64 (O i).p.1.2) := by
  obtain ⟨ad, rfl, hb, hc⟩ := hr.2 (by omega)
  obtain ⟨h0, h1, h2, h3⟩ := hO i hi
  have c0 := hc _ _ h0
  have c1 := hc _ _ h1
  have c2 := hc _ _ h2
  have c3 := hc _ _ h3
  rw [add_field' _ _ _ (by decide)] at c1 c2 c3
  exact ⟨ad, rfl, hb, c0, c1, c2, c3⟩

theorem op_at {w : World} {B m : Nat} {ad : Addr} {xs : List Value} {O : Nat → OpV} (hr : Reads w B 4 (some ad) m xs) (hO : ∀ i, i < m → OpIs xs i (O i)) {i : Nat} (hi : i < m) :
    w.cell? ⟨(ad.add (i * 4)).block, (ad.add (i * 4)).off + 1, none⟩ = some (.int .i64 (O i).fr) ∧ w.cell? ⟨(ad.add (i * 4)).block, (ad.add (i * 4)).off + 2, none⟩ = some (.int .i64 (O i).p.1.1) ∧ w.cell? ⟨(ad.add (i * 4)).block, (ad.add (i * 4)).off + 2 + 1, none⟩ = some (.int .u64 (O i).p.1.2) := by
  obtain ⟨ad', e, _, _, h⟩ := op_cells hr hO hi
  cases e
  exact h

/-- Two maps of uses, apart. -/
structure Two (w wr : World) (ca cb N : Nat) (ua ub : Int → Plc → Bool) (Ba Bb : Nat → Prop) : Prop where
  ma : Mp wr w.heap.size ca N ua Ba
  mb : Mp wr w.heap.size cb N ub Bb
  dis : ∀ g, Ba g → ¬ Bb g
  be : Below w.heap.size w wr
section
variable {w wr w' : World} {ca cb N N' : Nat} {ua ub u' : Int → Plc → Bool} {Ba Bb : Nat → Prop}
theorem Mp.low {W W' c : Nat} {u : Int → Plc → Bool} {B : Nat → Prop} (h : Mp w W c N u B) (hW : W' ≤ W) : Mp w W' c N u B := by
  obtain ⟨mb, F, h, rfl⟩ := h
  exact ⟨mb, F, ⟨⟨h.r.blk, h.r.out, h.r.inn, h.r.non, h.r.inj, h.r.ne, h.r.cm, ⟨Nat.le_trans hW h.r.lo.1, Nat.le_trans hW h.r.lo.2.1, fun k b hk => Nat.le_trans hW (h.r.lo.2.2 k b hk)⟩⟩, h.som⟩, rfl⟩
theorem Two.fresh (h : Two w wr ca cb N ua ub Ba Bb) (hb : Below wr.heap.size wr w') : Two w w' ca cb N ua ub Ba Bb := ⟨h.ma.below hb, h.mb.below hb, h.dis, h.be.trans (hb.mono h.be.size)⟩
theorem Two.drewN (h : Two w wr ca cb N ua ub Ba Bb) (q : Nat) : Two w (wr.drewN q) ca cb N ua ub Ba Bb := h.fresh (below_drewN (Below.refl _ _) q)
theorem Two.mono (h : Two w wr ca cb N ua ub Ba Bb) (hN : N ≤ N') : Two w wr ca cb N' ua ub Ba Bb := ⟨h.ma.mono hN, h.mb.mono hN, h.dis, h.be⟩
theorem Two.toA (h : Two w wr ca cb N ua ub Ba Bb) (hN : N ≤ N') (ht : MpTo wr w' w.heap.size ca N' u' Ba) : ∃ Ba', Two w w' ca cb N' u' ub Ba' Bb := by
  have hb := ht.bel h.be h.ma (Nat.le_refl _)
  obtain ⟨B', h1, h2, h3⟩ := ht
  exact ⟨B', h1, (h.mb.apart h2 fun g k1 k2 => h.dis g k2 k1).mono hN, fun g hg => by
    rcases h3 g hg with h4 | h4
    · exact h.dis g h4
    · intro h5; have := (h.mb.lt h5).2; omega, hb⟩
theorem Two.toB (h : Two w wr ca cb N ua ub Ba Bb) (hN : N ≤ N') (ht : MpTo wr w' w.heap.size cb N' u' Bb) : ∃ Bb', Two w w' ca cb N' ua u' Ba Bb' := by
  have hb := ht.bel h.be h.mb (Nat.le_refl _)
  obtain ⟨B', h1, h2, h3⟩ := ht
  exact ⟨B', (h.ma.apart h2 fun g k1 k2 => h.dis g k1 k2).mono hN, h1, fun g hg h5 => by
    rcases h3 g h5 with h4 | h4
    · exact h.dis g hg h4
    · have := (h.ma.lt hg).2; omega, hb⟩
end

theorem Mp.plen {w : World} {W c N : Nat} {u : Int → Plc → Bool} {B : Nat → Prop} {k : Int} {ts : List Plc} (h : Mp w W c N u B) (hp : PlacesOf (u k) ts) : ts.length ≤ N := by
  obtain ⟨mb, F, h, rfl⟩ := h
  cases hF : F k with
  | none =>
    have : ts = [] := by
      rw [List.eq_nil_iff_forall_not_mem]
      intro p hm
      have := (hp.2 p).1 hm
      rw [h.r.non k hF p] at this
      cases this
    rw [this]; exact Nat.zero_le _
  | some b =>
    obtain ⟨ks, _, hks, hkl, _⟩ := (h.r.inn k b hF).keys keyedP (t := 52) Try.underlying52
    have h2 := sub_len' (m := ks) (hp.1.imp fun {a b} hab e => by subst e; rw [plt_iff] at hab; omega) (fun p hm => by
      rw [hks p]
      unfold usF
      rw [(hp.2 p).1 hm]; rfl)
    omega
theorem Mp.flen {w : World} {W c N : Nat} {u : Int → Plc → Bool} {B : Nat → Prop} {fs : List Int} (h : Mp w W c N u B) (hf : FramesOf u fs) : fs.length ≤ N := by
  obtain ⟨mb, F, h, rfl⟩ := h
  obtain ⟨ks, hks, hkl⟩ := keys_le h.r.out keyed3 Try.underlying3 (t := 49) Try.underlying49
  have h2 := sub_len (m := ks) (hf.1.imp fun {a b} hab e => by omega) (fun k hm => by
    rw [hks k]
    obtain ⟨p, hp⟩ := (hf.2 k).1 hm
    cases hF : F k with
    | none => rw [h.r.non k hF p] at hp; cases hp
    | some b => rfl)
  omega

/-- What the first i of some steps have added. -/
def Adds (O : Nat → OpV) (u : Int → Plc → Bool) (i : Nat) : Prop := ∀ k p, u k p = true ↔ ∃ j, j < i ∧ (O j).fr % 4 = k ∧ (O j).p = p
theorem Adds.zero (O : Nat → OpV) : Adds O (fun _ _ => false) 0 := fun k p => ⟨fun h => by (cases h), fun ⟨j, h, _⟩ => by omega⟩
theorem Adds.step {O : Nat → OpV} {u : Int → Plc → Bool} {i : Nat} (h : Adds O u i) : Adds O (addU u ((O i).fr % 4) (O i).p) (i + 1) := fun k p => by
  unfold addU
  rw [if_neg (by omega)]
  by_cases e : k = (O i).fr % 4 ∧ p = (O i).p
  · simp only [e, and_self, if_true, true_iff]
    exact ⟨i, by omega, rfl, rfl⟩
  · rw [if_neg e, h k p]
    constructor
    · rintro ⟨j, h1, h2⟩; exact ⟨j, by omega, h2⟩
    · rintro ⟨j, h1, h2, h3⟩
      by_cases hj : j = i
      · subst hj; exact absurd ⟨h2.symm, h3.symm⟩ e
      · exact ⟨j, by omega, h2, h3⟩
theorem Adds.turn {O : Nat → OpV} {ua ub : Int → Plc → Bool} {n : Nat} (ha : Adds O ua n) (hb : Adds (fun j => O (n - 1 - j)) ub n) : ub = ua := by
  funext k p
  rw [Bool.eq_iff_iff, ha k p, hb k p]
  constructor
  · rintro ⟨j, h1, h2⟩; exact ⟨n - 1 - j, by omega, h2⟩
  · rintro ⟨j, h1, h2⟩; exact ⟨n - 1 - j, by omega, by simp only [show n - 1 - (n - 1 - j) = j from by omega]; exact h2⟩
end Go.Proofs.Ytdnfjpelhiniaaa
