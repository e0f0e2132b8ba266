/- IndexAlike: plain laws. -/
import Derived.Test.YtkpngkdkkcadfaaI20a
namespace Go.Proofs.Ytkpngkdkkcadfaa
open Go.RowKit Mk

def pg (k v : Nat) : Nat → Nat := putB (putB (fun _ => 0) 64 8 (100 - v)) (96 + 32 * k) 8 v
theorem pg_sums : ∀ k, k < 4 → ∀ v, v < 4 → sre (pg k v) = 100 ∧ sim (pg k v) = 0 := by decide +kernel
def z100 : Cx := ⟨(100, 0), by decide⟩
theorem pg_dig {k v : Nat} (hk : k < 4) (hv : v < 4) : dig (pg k v) = z100 := cx_ext (pg_sums k hk v hv).1 (pg_sums k hk v hv).2
def aG (i : Nat) (K V : Nat → Nat) : Int → Nat → Nat := fun x => if 0 ≤ x ∧ x < i then pg (K x.toNat) (V x.toNat) else fun _ => 0
def aS (i : Nat) : Ki → Option Cx := fun k => if 0 ≤ k.1 ∧ k.1 < i then some z100 else none
def Kv (i : Nat) (K V : Nat → Nat) : Prop := ∀ j, j < i → K j < 4 ∧ V j < 4
def upd (K : Nat → Nat) (i k : Nat) : Nat → Nat := fun j => if j = i then k else K j
theorem aG_zero (K V : Nat → Nat) : aG 0 K V = G0 := by
  funext x
  unfold aG G0
  rw [if_neg (by omega)]
theorem aS_zero : aS 0 = S0 := by
  funext k
  unfold aS S0
  rw [if_neg (by omega)]
theorem Kv.step {i : Nat} {K V : Nat → Nat} (h : Kv i K V) {k v : Nat} (hk : k < 4) (hv : v < 4) : Kv (i + 1) (upd K i k) (upd V i v) := fun j hj => by
  unfold upd
  by_cases e : j = i
  · rw [if_pos e, if_pos e]; exact ⟨hk, hv⟩
  · rw [if_neg e, if_neg e]; exact h j (by omega)
def aH (i v : Nat) (K V : Nat → Nat) : Int → Nat → Nat := wrF (aG i K V) i (putB (fun _ => 0) 64 8 (100 - v))
theorem aG_new (i : Nat) (K V : Nat → Nat) : aG i K V i = fun _ => 0 := if_neg (by omega)
theorem aH_w (i v : Nat) (K V : Nat → Nat) : wrF (aG i K V) i (putB (aG i K V i) 64 8 (100 - v)) = aH i v K V := by rw [aG_new]; rfl
theorem aH_at (i v : Nat) (K V : Nat → Nat) : aH i v K V i = putB (fun _ => 0) 64 8 (100 - v) := if_pos rfl
theorem aG_w (i k v : Nat) (K V : Nat → Nat) : wrF (aH i v K V) i (putB (aH i v K V i) (96 + 32 * k) 8 v) = aG (i + 1) (upd K i k) (upd V i v) := by
  rw [aH_at]
  funext x
  unfold wrF aG aH wrF
  by_cases e : x = (i : Int)
  · subst e
    rw [if_pos rfl, if_pos (by omega)]
    show pg k v = _
    rw [Int.toNat_natCast]
    unfold upd
    rw [if_pos rfl, if_pos rfl]
  · rw [if_neg e, if_neg e]
    unfold aG
    by_cases h : 0 ≤ x ∧ x < i
    · rw [if_pos h, if_pos (by omega)]
      unfold upd
      rw [if_neg (by omega), if_neg (by omega)]
    · rw [if_neg h, if_neg (by omega)]
theorem aG_next (i : Nat) (K V : Nat → Nat) : aG (i + 1) K V i = pg (K i) (V i) := by
  unfold aG
  rw [if_pos (by omega), Int.toNat_natCast]
theorem aS_w (i : Nat) (hi : (Lit.int .i64 (i : Int)).wf = true) : putS (aS i) ⟨i, hi⟩ z100 = aS (i + 1) := by
  funext k
  unfold putS aS
  have : k = ⟨(i : Int), hi⟩ ↔ k.1 = (i : Int) := Subtype.ext_iff
  by_cases h : k.1 = (i : Int)
  · rw [if_pos (this.2 h), if_pos (by omega)]
  · rw [if_neg (fun e => h (this.1 e))]
    by_cases h2 : 0 ≤ k.1 ∧ k.1 < (i : Int)
    · rw [if_pos h2, if_pos (by omega)]
    · rw [if_neg h2, if_neg (by omega)]
theorem aS_none (i : Nat) (hi : (Lit.int .i64 (i : Int)).wf = true) : aS i ⟨i, hi⟩ = none := if_neg (by simp)
theorem aS_iff (k : Ki) (z : Cx) : aS 12 k = some z ↔ (0 ≤ k.1 ∧ k.1 < 12) ∧ z100 = z := by
  unfold aS
  by_cases h : 0 ≤ k.1 ∧ k.1 < (12 : Nat)
  · rw [if_pos h]
    exact ⟨fun e => ⟨by omega, Option.some.inj e⟩, fun e => by rw [e.2]⟩
  · rw [if_neg h]
    exact ⟨fun e => (by cases e), fun e => absurd (show 0 ≤ k.1 ∧ k.1 < (12 : Nat) from by omega) h⟩
/-- Frames of the same bytes. -/
def alk (G : Int → Nat → Nat) (f k : Nat) : Prop := ∀ j, j < 4096 → G k j = G f j
theorem hit_all {K V : Nat → Nat} (hkv : Kv 12 K V) {f : Nat} (hf : f < 12) (nt k : Int) : Hit (aG 12 K V) (aS 12) (aG 12 K V f) nt k ↔ ∃ n : Nat, k = n ∧ n < 12 ∧ k ≠ nt ∧ alk (aG 12 K V) f n := by
  have hd : dig (aG 12 K V f) = z100 := by
    unfold aG
    rw [if_pos (by omega), Int.toNat_natCast]
    exact pg_dig (hkv f hf).1 (hkv f hf).2
  constructor
  · rintro ⟨⟨h, e⟩, h2, h3⟩
    obtain ⟨h4, _⟩ := (aS_iff _ _).1 e
    simp only at h4
    obtain ⟨n, rfl⟩ := Int.eq_ofNat_of_zero_le h4.1
    exact ⟨n, rfl, by omega, h2, h3⟩
  · rintro ⟨n, rfl, h1, h2, h3⟩
    exact ⟨⟨wf_small (by omega), (aS_iff _ _).2 ⟨by simp only; omega, hd.symm⟩⟩, h2, h3⟩
def WantIs (G : Int → Nat → Nat) (f n : Nat) (want : Int) : Prop := (want = -1 ∧ ∀ k, n ≤ k → k < 12 → k ≠ f → ¬ alk G f k) ∨ ∃ m : Nat, want = m ∧ n ≤ m ∧ m < 12 ∧ m ≠ f ∧ alk G f m ∧ ∀ k, n ≤ k → k < 12 → k ≠ f → alk G f k → m ≤ k
theorem WantIs.begin (G : Int → Nat → Nat) (f : Nat) : WantIs G f 12 (-1) := .inl ⟨rfl, fun k h1 h2 => by omega⟩
theorem WantIs.skip {G : Int → Nat → Nat} {f n : Nat} {want : Int} (h : WantIs G f (n + 1) want) (hs : n = f ∨ ¬ alk G f n) : WantIs G f n want := by
  rcases h with ⟨h1, h2⟩ | ⟨m, h1, h2, h3, h4, h5, h6⟩
  · refine .inl ⟨h1, fun k hk hk2 hk3 => ?_⟩
    by_cases e : k = n
    · subst e
      rcases hs with hs | hs
      · exact absurd hs hk3
      · exact hs
    · exact h2 k (by omega) hk2 hk3
  · refine .inr ⟨m, h1, by omega, h3, h4, h5, fun k hk hk2 hk3 hk4 => ?_⟩
    by_cases e : k = n
    · subst e
      rcases hs with hs | hs
      · exact absurd hs hk3
      · exact absurd hk4 hs
    · exact h6 k (by omega) hk2 hk3 hk4
theorem WantIs.take {G : Int → Nat → Nat} {f n : Nat} (hn : n < 12) (hf : n ≠ f) (ha : alk G f n) : WantIs G f n n := .inr ⟨n, rfl, Nat.le_refl _, hn, hf, ha, fun _ hk _ _ _ => hk⟩
def FIs (G : Int → Nat → Nat) (S : Ki → Option Cx) (g : Nat → Nat) (nt x : Int) (r : Bool) : Prop := (r = true ∧ Hit G S g nt x ∧ ∀ k', Hit G S g nt k' → x ≤ k') ∨ (r = false ∧ x = 0 ∧ ∀ k, ¬ Hit G S g nt k)
theorem want_is {K V : Nat → Nat} (hkv : Kv 12 K V) {f : Nat} (hf : f < 12) {want x : Int} {r : Bool} (hw : WantIs (aG 12 K V) f 0 want) (hx : FIs (aG 12 K V) (aS 12) (aG 12 K V f) f x r) : (r = true ∧ x = want ∧ 0 ≤ want) ∨ (r = false ∧ want = -1) := by
  rcases hx with ⟨rfl, h1, h2⟩ | ⟨rfl, _, h1⟩
  · obtain ⟨n, rfl, a1, a2, a3⟩ := (hit_all hkv hf _ _).1 h1
    rcases hw with ⟨_, b1⟩ | ⟨m, rfl, _, b1, b2, b3, b4⟩
    · exact absurd a3 (b1 n (by omega) a1 (by omega))
    · have c1 := h2 m ((hit_all hkv hf _ _).2 ⟨m, rfl, b1, by omega, b3⟩)
      have c2 := b4 n (by omega) a1 (by omega) a3
      exact .inl ⟨rfl, by omega, by omega⟩
  · rcases hw with ⟨b0, _⟩ | ⟨m, rfl, _, b1, b2, b3, b4⟩
    · exact .inr ⟨rfl, b0⟩
    · exact absurd ((hit_all hkv hf _ _).2 ⟨m, rfl, b1, by omega, b3⟩) (h1 _)
theorem self_is {K V : Nat → Nat} (hkv : Kv 12 K V) {f : Nat} (hf : f < 12) {x : Int} {r : Bool} (hx : FIs (aG 12 K V) (aS 12) (aG 12 K V f) (-1) x r) : r = true ∧ ∃ n : Nat, x = n ∧ n ≤ f ∧ alk (aG 12 K V) f n := by
  have hs : Hit (aG 12 K V) (aS 12) (aG 12 K V f) (-1) f := (hit_all hkv hf _ _).2 ⟨f, rfl, hf, by omega, fun _ _ => rfl⟩
  rcases hx with ⟨rfl, h1, h2⟩ | ⟨_, _, h1⟩
  · obtain ⟨n, rfl, a1, a2, a3⟩ := (hit_all hkv hf _ _).1 h1
    exact ⟨rfl, n, rfl, by have := h2 _ hs; omega, a3⟩
  · exact absurd hs (h1 _)
theorem alike_one {S : Ki → Option Cx} {z0 : Cx} {l0 : List Int} (hg : Grp S z0 l0) (hl : 1 < l0.length) (hz : ∀ k z, S k = some z → z0 = z) {ls : List (List Int)} (h : AlikeOf S ls) : ls = [l0] := by
  have h1 : ∀ l ∈ ls, l = l0 := fun l hl => by
    obtain ⟨⟨z, hz'⟩, h2⟩ := (h.2 l).1 hl
    obtain ⟨h3, e⟩ := (hz'.2 _).1 (hd_mem (l := l) (by omega))
    obtain rfl := hz _ _ e
    exact hz'.unique hg
  have h2 : l0 ∈ ls := (h.2 _).2 ⟨⟨z0, hg⟩, hl⟩
  match ls, h1, h2, h.1 with
  | [l], h1, _, _ => rw [h1 l (List.mem_cons_self ..)]
  | a :: b :: l, h1, _, hp =>
    have e1 := h1 a (List.mem_cons_self ..)
    have e2 := h1 b (List.mem_cons_of_mem _ (List.mem_cons_self ..))
    have := (List.pairwise_cons.1 hp).1 b (List.mem_cons_self ..)
    rw [e1, e2] at this
    omega
def l12 : List Int := [0, 1, 2, 3, 4, 5, 6, 7, 8, 9, 10, 11]
theorem grp12 : Grp (aS 12) z100 l12 := ⟨by decide, fun x => by
  have h0 : x ∈ l12 ↔ 0 ≤ x ∧ x < 12 := by
    unfold l12
    simp only [List.mem_cons, List.not_mem_nil, or_false]
    omega
  rw [h0]
  constructor
  · intro h
    obtain ⟨n, rfl⟩ := Int.eq_ofNat_of_zero_le h.1
    exact ⟨wf_small (by omega), (aS_iff _ _).2 ⟨h, rfl⟩⟩
  · rintro ⟨h, e⟩
    exact ((aS_iff _ _).1 e).1⟩
theorem alike12 {ls : List (List Int)} (h : AlikeOf (aS 12) ls) : ls = [l12] := alike_one grp12 (by decide) (fun k z e => ((aS_iff k z).1 e).2) h
end Go.Proofs.Ytkpngkdkkcadfaa
