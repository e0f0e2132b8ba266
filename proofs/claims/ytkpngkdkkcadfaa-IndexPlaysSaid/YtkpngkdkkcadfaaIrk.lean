/- IndexPlays: the steps, opened; the book and the document's own, side by side. -/
import Derived.Test.YtkpngkdkkcadfaaIri
import Derived.Test.YtkpngkdkkcadfaaOps
import Derived.Test.YtkpngkdkkcadfaaI20a
namespace Go.Proofs.Ytkpngkdkkcadfaa
open Go.RowKit Mk

abbrev opK : List CK := [.i .i64, .i .i64, .i .i64, .i .u64]
/-- One step. -/
structure OpV where
  kd : Int
  fr : Int
  pl : Int
  vv : Int
  wf : (Lit.int .i64 fr).wf = true
  wv : (Lit.int .u64 vv).wf = true
/-- Step i is among the cells. -/
def OpIs (xs : List Value) (i : Nat) (o : OpV) : Prop := xs[i * 4]? = some (.int .i64 o.kd) ∧ xs[i * 4 + 1]? = some (.int .i64 o.fr) ∧ xs[i * 4 + 2]? = some (.int .i64 o.pl) ∧ xs[i * 4 + 3]? = some (.int .u64 o.vv)
theorem ops_fn {m : Nat} {xs : List Value} (hl : xs.length = m * 4) (hx : CellsR opK xs) : ∃ O : Nat → OpV, ∀ i, i < m → OpIs xs i (O i) := by
  have h1 : ∀ i, ∃ o : OpV, i < m → OpIs xs i o := fun i => by
    by_cases hi : i < m
    · obtain ⟨kd, a0, b0⟩ := hx.int (j := i * 4 + 0) (k := .i64) (by omega) (kind_at (ks := opK) (q := 0) (by decide) rfl)
      obtain ⟨fr, a1, b1⟩ := hx.int (j := i * 4 + 1) (k := .i64) (by omega) (kind_at (ks := opK) (q := 1) (by decide) rfl)
      obtain ⟨g, a2, b2⟩ := hx.int (j := i * 4 + 2) (k := .i64) (by omega) (kind_at (ks := opK) (q := 2) (by decide) rfl)
      obtain ⟨p, a3, b3⟩ := hx.int (j := i * 4 + 3) (k := .u64) (by omega) (kind_at (ks := opK) (q := 3) (by decide) rfl)
      exact ⟨⟨kd, fr, g, p, b1, b3⟩, fun _ => ⟨a0, a1, a2, a3⟩⟩
    · exact ⟨⟨0, 0, 0, 0, by decide, by decide⟩, fun h => absurd h hi⟩
  exact ⟨fun i => Classical.choose (h1 i), fun i => Classical.choose_spec (h1 i)⟩
theorem op_cells {w : World} {B m : Nat} {A : Option Addr} {xs : List Value} {O : Nat → OpV} (hr : Reads w B 4 A m xs) (hO : ∀ i, i < m → OpIs xs i (O i)) {i : Nat} (hi : i < m) :
    ∃ ad, A = some ad ∧ ad.block < B ∧ w.cell? (ad.add (i * 4)) = some (.int .i64 (O i).kd) ∧ w.cell? ⟨(ad.add (i * 4)).block, (ad.add (i * 4)).off + 1, none⟩ = some (.int .i64 (O i).fr) ∧ w.cell? ⟨(ad.add (i * 4)).block, (ad.add (i * 4)).off + 2, none⟩ = some (.int .i64 (O i).pl) ∧ w.cell? ⟨(ad.add (i * 4)).block, (ad.add (i * 4)).off + 3, none⟩ = some (.int .u64 (O i).vv) := by
  obtain ⟨ad, rfl, hb, hc⟩ := hr.2 (by omega)
  obtain ⟨h0, h1, h2, h3⟩ := hO i hi
  have c0 := hc _ _ h0
  have c1 := hc _ _ h1
  have c2 := hc _ _ h2
  have c3 := hc _ _ h3
  rw [add_field' _ _ _ (by decide)] at c1 c2 c3
  exact ⟨ad, rfl, hb, c0, c1, c2, c3⟩

structure Tw (w wr : World) (cm cx cr : Nat) (G : Int → Nat → Nat) (S : Ki → Option Cx) (B : Nat → Prop) (GR : Int → Nat → Nat) (xs : List Is) (N : Nat → Prop) : Prop where
  tk : Tk w wr cm cx G S B
  rx : ∃ vF v, RX wr w.heap.size cr vF v xs GR N
  d1 : ¬ B cr
  d2 : ∀ g, N g → ¬ B g
/-- A block of neither. -/
def Fo (B : Nat → Prop) (cr g : Nat) : Prop := ¬ B g ∧ g ≠ cr
/-- Blocks beside are kept. -/
def Kept (wr w' : World) (B B' : Nat → Prop) (cr : Nat) : Prop := ∀ g t cs, Blk wr g t cs → Fo B cr g → Blk w' g t cs ∧ Fo B' cr g
section
variable {w wr w' : World} {cm cx cr : Nat} {G G' GR GR' : Int → Nat → Nat} {S S' : Ki → Option Cx} {B N : Nat → Prop} {xs ys : List Is}
theorem Tw.fresh (h : Tw w wr cm cx cr G S B GR xs N) (hb : Below wr.heap.size wr w') : Tw w w' cm cx cr G S B GR xs N := by
  obtain ⟨vF, v, hr⟩ := h.rx
  exact ⟨h.tk.fresh hb, ⟨vF, v, hr.below hb⟩, h.d1, h.d2⟩
theorem Tw.drewN (h : Tw w wr cm cx cr G S B GR xs N) (q : Nat) : Tw w (wr.drewN q) cm cx cr G S B GR xs N := h.fresh (below_drewN (Below.refl _ _) q)
theorem Tw.fo (h : Tw w wr cm cx cr G S B GR xs N) {g : Nat} (hg : wr.heap.size ≤ g) : Fo B cr g := by
  obtain ⟨vF, v, hr⟩ := h.rx
  exact ⟨fun hb => by have := (h.tk.bk.lt hb).2; omega, fun e => by have := hr.blk.lt; omega⟩
theorem Tw.toB (h : Tw w wr cm cx cr G S B GR xs N) (ht : BkTo wr w' w.heap.size cm cx G' S' B) : ∃ B', Tw w w' cm cx cr G' S' B' GR xs N ∧ Kept wr w' B B' cr := by
  obtain ⟨vF, v, hr⟩ := h.rx
  have hb := ht.bel h.tk.be h.tk.bk (Nat.le_refl _)
  obtain ⟨B', h1, h2, h3⟩ := ht
  have key : ∀ g, g < wr.heap.size → ¬ B g → ¬ B' g := fun g hl hn hg => by
    rcases h3 g hg with h4 | h4
    · exact hn h4
    · omega
  exact ⟨B', ⟨⟨h1, hb⟩, ⟨vF, v, hr.apart h2 h.d1 h.d2⟩, key _ hr.blk.lt h.d1, fun g hg => key g (hr.nl g hg).2 (h.d2 g hg)⟩,
    fun g t cs k1 k2 => ⟨k1.only h2 k2.1, key g k1.lt k2.1, k2.2⟩⟩
theorem Tw.toR (h : Tw w wr cm cx cr G S B GR xs N) (ht : RxTo wr w' w.heap.size cr ys GR' N) : ∃ N', Tw w w' cm cx cr G S B GR' ys N' ∧ Kept wr w' B B cr := by
  obtain ⟨_, _, hr0⟩ := h.rx
  obtain ⟨vF, v, N', h1, h2, h3⟩ := ht
  have hb : Below w.heap.size w w' := h.tk.be.trans (h2.to_below (fun k hk => by have := hr0.le; subst hk; exact this) h.tk.be.size)
  refine ⟨N', ⟨⟨h.tk.bk.apart h2 fun g hg e => by subst e; exact h.d1 hg, hb⟩, ⟨vF, v, h1⟩, h.d1, fun g hg hB => ?_⟩, fun g t cs k1 k2 => ⟨k1.only h2 fun e => k2.2 e, k2⟩⟩
  rcases h3 g hg with h4 | h4
  · exact h.d2 g h4 hB
  · have := (h.tk.bk.lt hB).2; omega
end
/-- The frames are told anew. -/
theorem RX.setF {w w1 : World} {W c : Nat} {vF v vF' : Value} {xs : List Is} {G G' : Int → Nat → Nat} {N : Nat → Prop} (h : RX w W c vF v xs G N) (hb : Below w.heap.size w w1) (hF : FR w1 w.heap.size vF' G' (fun g => w.heap.size ≤ g ∧ g < w1.heap.size)) (hW : W ≤ w.heap.size) : RxTo w (w1.setCell ⟨c, 0, none⟩ vF') W c xs G' N := by
  have h1 := h.below hb
  have ho : Only (fun g => g = c) w1 (w1.setCell ⟨c, 0, none⟩ vF') := Only.setCell (S := fun g => g = c) (Only.refl _ w1) (p := ⟨c, 0, none⟩) (.inl rfl) _
  have hcl := h.blk.lt
  refine ⟨vF', v, fun g => N g ∨ (w.heap.size ≤ g ∧ g < w1.heap.size), ⟨h1.blk.set_ 0 _, own_keep h1.own ho fun g hg e => by subst e; exact h.nc (h.nv _ hg), fun g hg => .inl (h.nv g hg), ?_, fun h9 => ?_, fun g hg => ?_, h.le⟩, (only_fresh hb).trans ho, fun g hg => ?_⟩
  · obtain ⟨fs, a1, a2, a3⟩ := hF
    refine ⟨fs, ownsRow_mono (own_keep a1 ho fun g hg e => by have := (a2 g hg).1; omega) hW, fun g hg => .inr (a2 g hg), fun k hk => ?_⟩
    obtain ⟨u, b1, b2, b3⟩ := a3 k hk
    exact ⟨u, b1, fun g hg => .inr (b2 g hg), ownsRow_mono (own_keep b3 ho fun g hg e => by have := (b2 g hg).1; omega) hW⟩
  · rcases h9 with h9 | h9
    · exact h.nc h9
    · omega
  · have := ho.size
    rcases hg with hg | hg
    · have := h1.nl g hg; exact ⟨this.1, by omega⟩
    · exact ⟨by omega, by omega⟩
  · rcases hg with hg | hg
    · exact .inl hg
    · exact .inr hg.1
/-- How many are in. -/
theorem keys_len {xs : List Is} {S : Ki → Option Cx} {ks : List Ki} (hs : XSim xs S) (h : ks.Pairwise (· ≠ ·)) (hm : ∀ k, k ∈ ks ↔ (S k).isSome = true) : ks.length = xs.length := by
  have hp : (ks.map (·.1)).Perm (xs.map (·.1)) := by
    refine (List.perm_ext_iff_of_nodup ?_ ?_).2 fun f => ?_
    · unfold List.Nodup
      rw [List.pairwise_map]
      exact h.imp fun hne e => hne (Subtype.ext e)
    · unfold List.Nodup
      rw [List.pairwise_map]
      exact hs.1.imp fun {a b} hab e => by rw [e] at hab; omega
    · rw [List.mem_map, List.mem_map]
      constructor
      · rintro ⟨k, hk, rfl⟩
        obtain ⟨z, hz⟩ := Option.isSome_iff_exists.1 ((hm k).1 hk)
        exact ⟨(k.1, z), (hs.2 _ _).2 ⟨k.2, hz⟩, rfl⟩
      · rintro ⟨x, hx, rfl⟩
        obtain ⟨hw, e⟩ := (hs.2 x.1 x.2).1 hx
        exact ⟨⟨x.1, hw⟩, (hm _).2 (by rw [e]; rfl), rfl⟩
  have := hp.length_eq
  simpa using this
/-- Is a frame in the list? -/
def inL (xs : List Is) (f : Int) : Bool := xs.any fun x => x.1 == f
theorem inL_is {xs : List Is} {S : Ki → Option Cx} (hs : XSim xs S) {f : Int} (hf : (Lit.int .i64 f).wf = true) : inL xs f = (S ⟨f, hf⟩).isSome := by
  rw [Bool.eq_iff_iff]
  unfold inL
  rw [List.any_eq_true]
  constructor
  · rintro ⟨x, hx, e⟩
    obtain rfl : x.1 = f := by simpa using e
    obtain ⟨_, e⟩ := (hs.2 x.1 x.2).1 hx
    rw [e]; rfl
  · intro h1
    obtain ⟨z, hz⟩ := Option.isSome_iff_exists.1 h1
    exact ⟨(f, z), (hs.2 f z).2 ⟨hf, hz⟩, by simp⟩
/-- The rounds. -/
def PlR (w : World) (cm cx cr : Nat) (vi : Value) (wr : World) : Prop := ∃ (i : Nat) (G : Int → Nat → Nat) (S : Ki → Option Cx) (B : Nat → Prop) (xs : List Is) (N : Nat → Prop), vi = .int .i64 i ∧ i ≤ 60 ∧ Tw w wr cm cx cr G S B G xs N ∧ XSim xs S
def PlC (w : World) (cm cx cr gb : Nat) (cs : Array Value) (v9 v10 : Value) (wr : World) : Prop := ∃ (x : Int) (G : Int → Nat → Nat) (S : Ki → Option Cx) (B : Nat → Prop) (xs : List Is) (N : Nat → Prop), v9 = .int .i64 x ∧ v10 = .int .i64 x ∧ Tw w wr cm cx cr G S B G xs N ∧ XSim xs S ∧ Blk wr gb 45 cs ∧ Fo B cr gb
def PlK (wo : World) (xs : List Is) (f : Int) (n : Nat) (vk vj : Value) (wr : World) : Prop := ∃ j : Nat, vj = .int .i64 j ∧ j ≤ n ∧ vk = .bool (inL (xs.take j) f) ∧ ∃ q, wr = wo.drewN q
theorem inL_take {xs : List Is} {j : Nat} {x : Is} (hx : xs[j]? = some x) (f : Int) : inL (xs.take (j + 1)) f = (inL (xs.take j) f || x.1 == f) := by
  unfold inL
  rw [take_snoc hx, List.any_append]
  simp

def inR (k : Ki) : Prop := 0 ≤ k.1 ∧ k.1 < 12
instance (k : Ki) : Decidable (inR k) := inferInstanceAs (Decidable (_ ∧ _))
def addE (S : Ki → Option Cx) (k : Ki) : Int := if inR k then (if (S k).isSome then 22 else 0) else 2
def addS (G : Int → Nat → Nat) (S : Ki → Option Cx) (k : Ki) : Ki → Option Cx := if inR k then (if (S k).isSome then S else putS S k (dig (G k.1))) else S
def dropE (S : Ki → Option Cx) (k : Ki) : Int := if (S k).isSome then 0 else 23
section
variable {w w' : World} {W cm cx : Nat} {G : Int → Nat → Nat} {S : Ki → Option Cx} {B : Nat → Prop}
theorem BkTo.same (h : Bk w W cm cx G S B) (hb : Below w.heap.size w w') : BkTo w w' W cm cx G S B := ⟨B, h.below hb, only_fresh hb, fun _ hg => .inl hg⟩
theorem delS_none {k : Ki} (h : S k = none) : delS S k = S := by
  funext j
  unfold delS
  by_cases e : j = k
  · rw [if_pos e, e, h]
  · rw [if_neg e]
theorem kadd1 (h : Bk w W cm cx G S B) (k : Int) (hk : (Lit.int .i64 k).wf = true) :
    Calls Try.prog 8 #[.pointer (some ⟨cx, 0, none⟩), .int .i64 k] w fun e w' => e = .returned (.int .i64 (addE S ⟨k, hk⟩)) ∧ BkTo w w' W cm cx G (addS G S ⟨k, hk⟩) B := by
  refine (kadd h k hk).mono ?_
  unfold addE addS
  rintro e w' (⟨c1, c2, c3⟩ | ⟨c1, c2, c3, c4⟩ | ⟨c1, c2, c3, c4⟩)
  · have c1 : ¬ inR ⟨k, hk⟩ := c1
    rw [if_neg c1, if_neg c1]; exact ⟨c2, BkTo.same h c3⟩
  · have c1 : inR ⟨k, hk⟩ := c1
    rw [if_pos c1, if_pos c1, if_pos c2, if_pos c2]; exact ⟨c3, BkTo.same h c4⟩
  · have c1 : inR ⟨k, hk⟩ := c1
    rw [if_pos c1, if_pos c1, c2, if_neg (by simp), if_neg (by simp)]; exact ⟨c3, c4⟩
theorem kdrop1 (h : Bk w W cm cx G S B) (k : Int) (hk : (Lit.int .i64 k).wf = true) :
    Calls Try.prog 11 #[.pointer (some ⟨cx, 0, none⟩), .int .i64 k] w fun e w' => e = .returned (.int .i64 (dropE S ⟨k, hk⟩)) ∧ BkTo w w' W cm cx G (delS S ⟨k, hk⟩) B := by
  refine (kdrop h k hk).mono ?_
  unfold dropE
  rintro e w' (⟨c1, c2, rfl⟩ | ⟨c1, c2, c3⟩)
  · rw [delS_none c1, c1, if_neg (by simp)]; exact ⟨c2, BkTo.same h (Below.refl _ _)⟩
  · rw [if_pos c1]; exact ⟨c2, c3⟩
theorem kwrite1 (h : Bk w W cm cx G S B) {fr a x : Nat} (ha : a % 8 = 0) (hb : a + 8 ≤ 4096) (hx : x = fr * 4096 + a) (hf : fr ≤ 1000) (v : Nat) :
    Calls Try.prog 7 #[.pointer (some ⟨cm, 0, none⟩), .int .u64 x, .int .i64 8, .int .u64 v] w fun e w' => ∃ z G', e = .returned (.int .i64 z) ∧ BkTo w w' W cm cx G' S B := by
  refine (kwrite h (s := 8) (.inr rfl) ha hb hx (by omega) v).mono ?_
  rintro e w' (⟨c1, c2, c3⟩ | ⟨c1, c2, c3⟩)
  · exact ⟨_, _, c2, c3⟩
  · exact ⟨_, _, c2, BkTo.same h c3⟩
theorem kfind1 (h : Bk w W cm cx G S B) {b cap : Nat} {g : Nat → Nat} (hp : Pg w b g) (hg : ∀ j, g j < 256) (nt : Int) :
    Calls Try.prog 10 #[.pointer (some ⟨cx, 0, none⟩), .slice (some ⟨b, 0, none⟩) 4096 cap, .int .i64 nt] w fun e w' => ∃ x r, e = .returned (.tuple #[.int .i64 x, .bool r]) ∧ FIr G S g nt x r ∧ Below w.heap.size w w' :=
  (kfind h hp hg nt).mono fun e w' hp => by
    obtain ⟨h1, ⟨k', h2, h3, h4⟩ | ⟨h2, h3⟩⟩ := hp
    · exact ⟨k', true, h4, .inl ⟨rfl, h2, h3⟩, h1⟩
    · exact ⟨0, false, h3, .inr ⟨rfl, rfl, h2⟩, h1⟩
theorem kfind_nil (w : World) (cx : Nat) (nt : Int) :
    Calls Try.prog 10 #[.pointer (some ⟨cx, 0, none⟩), .slice none 0 0, .int .i64 nt] w fun e w' => e = .returned (.tuple #[.int .i64 0, .bool false]) ∧ w = w' := by
  have C : Calls Try.prog 29 #[.slice none 0 0] w fun e w' => e = .returned (.tuple #[.complex .f64 0 0, .int .i64 1]) ∧ w = w' := by
    go_enter Try.func29, Try.ntmps29
    go_wp2
    go_ret2
    exact ⟨rfl, rfl⟩
  have HC := Lib.hid C
  clear C
  go_enter Try.func10, Try.ntmps10
  go_wp2_with fail
  refine HC.out.mono ?_; rintro e _ ⟨rfl, rfl⟩
  go_wp2
  go_ret2
  exact ⟨rfl, rfl⟩
end
section
variable {w : World} {W c : Nat} {vF v : Value} {xs : List Is} {S : Ki → Option Cx} {G : Int → Nat → Nat} {N : Nat → Prop}
theorem rxadd1 (h : RX w W c vF v xs G N) (hs : XSim xs S) (hd : D12 S) (hg : ∀ k j, G k j < 256) (f : Int) (hf : (Lit.int .i64 f).wf = true) :
    Calls Try.prog 14 #[.pointer (some ⟨c, 0, none⟩), .int .i64 f] w fun e w' => e = .returned (.int .i64 (addE S ⟨f, hf⟩)) ∧ ∃ ys, XSim ys (addS G S ⟨f, hf⟩) ∧ RxTo w w' W c ys G N := by
  refine (rxadd h hs hd hg f hf).mono ?_
  unfold addE addS
  rintro e w' (⟨c1, c2, c3⟩ | ⟨c1, c2, c3, c4⟩ | ⟨c1, c2, c3, ys, c4, c5⟩)
  · have c1 : ¬ inR ⟨f, hf⟩ := c1
    rw [if_neg c1, if_neg c1]; exact ⟨c2, xs, hs, RxTo.same h c3⟩
  · have c1 : inR ⟨f, hf⟩ := c1
    rw [if_pos c1, if_pos c1, if_pos c2, if_pos c2]; exact ⟨c3, xs, hs, RxTo.same h c4⟩
  · have c1 : inR ⟨f, hf⟩ := c1
    rw [if_pos c1, if_pos c1, c2, if_neg (by simp), if_neg (by simp)]; exact ⟨c3, ys, c4, c5⟩
theorem rxdrop1 (h : RX w W c vF v xs G N) (hs : XSim xs S) (hd : D12 S) (f : Int) (hf : (Lit.int .i64 f).wf = true) :
    Calls Try.prog 15 #[.pointer (some ⟨c, 0, none⟩), .int .i64 f] w fun e w' => e = .returned (.int .i64 (dropE S ⟨f, hf⟩)) ∧ ∃ ys, XSim ys (delS S ⟨f, hf⟩) ∧ RxTo w w' W c ys G N := by
  refine (rxdrop h hs hd f hf).mono ?_
  unfold dropE
  rintro e w' (⟨c1, c2, c3⟩ | ⟨c1, c2, ys, c4, c5⟩)
  · rw [delS_none c1, c1, if_neg (by simp)]; exact ⟨c2, xs, hs, RxTo.same h c3⟩
  · rw [if_pos c1]; exact ⟨c2, ys, c4, c5⟩
theorem rxfind0 (h : RX w W c vF v xs G N) (nt : Int) :
    Calls Try.prog 16 #[.pointer (some ⟨c, 0, none⟩), .slice none 0 0, .int .i64 nt] w fun e w' => e = .returned (.tuple #[.int .i64 0, .bool false]) ∧ w = w' := by
  obtain ⟨A, cc, rfl⟩ := h.own.form
  obtain ⟨n, hnn⟩ : ∃ n, xs.length = n := ⟨_, rfl⟩
  rw [hnn] at h
  have c1 := h.c1
  have C : Calls Try.prog 40 #[.slice none 0 0] w fun e w' => e = .returned (.tuple #[.complex .f64 0 0, .int .i64 1]) ∧ w = w' := by
    clear c1 h
    go_enter Try.func40, Try.ntmps40
    go_wp2
    go_ret2
    exact ⟨rfl, rfl⟩
  have HC := Lib.hid C
  clear h C
  go_enter Try.func16, Try.ntmps16
  go_wp2_with fail
  refine HC.out.mono ?_; rintro e _ ⟨rfl, rfl⟩
  clear HC
  go_wp2_with fail
  refine wp_loop_rounds 1 ?_
  rw [rounds_succ]
  by_cases hn0 : 0 < n
  · have q1 : decide ((0 : Int) < (n : Int)) = true := by simp; exact hn0
    go_wp2
    go_ret2
    exact ⟨rfl, rfl⟩
  · have q1 : decide ((0 : Int) < (n : Int)) = false := by simp; omega
    go_wp2
    go_ret2
    exact ⟨rfl, rfl⟩
end
/-- A page of a few bytes. -/
theorem lpage {w : World} {W cm cx : Nat} {G : Int → Nat → Nat} {S : Ki → Option Cx} {B : Nat → Prop} (h : Bk w W cm cx G S B) {A1 A2 : Option Addr} {n m c d : Nat} {xs ys : List Value} (ha : Reads w w.heap.size 1 A1 n xs) (hb : Reads w w.heap.size 1 A2 m ys) (hx : IntsR xs) (hy : BytesR ys) :
    Calls Try.prog 17 #[.slice A1 n c, .slice A2 m d] w fun e w' => ∃ b g, e = .returned (.slice (some ⟨b, 0, none⟩) 4096 4096) ∧ (∀ j, g j < 256) ∧ PgN w' B b g ∧ Below w.heap.size w w' :=
  (page_any A1 A2 n m c d xs ys w ha hb hx hy).mono fun e w' ⟨h1, g, h2, h3, h4⟩ => ⟨_, g, h1, h2, ⟨⟨h3.lt, PageAt.of_blk h3⟩, fun hb => by have := (h.lt hb).2; omega⟩, h4⟩
end Go.Proofs.Ytkpngkdkkcadfaa
