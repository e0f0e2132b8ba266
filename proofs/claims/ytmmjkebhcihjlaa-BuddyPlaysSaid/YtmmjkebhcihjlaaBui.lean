/- The law's runs; what is taken and given back. -/
import Derived.Test.YtmmjkebhcihjlaaBuz
namespace Go.Proofs.Ytmmjkebhcihjlaa
open Go.RowKit

/-- The cells of a list of runs. -/
def Prs (w : World) (A : Option Addr) (ts : List (Nat × Nat)) : Prop := ∀ j u, (ts.flatMap pv)[j]? = some u → ∃ g, A = some ⟨g, 0, none⟩ ∧ w.cell? ⟨g, j, none⟩ = some u

def RuR (n : Nat) (wo : World) (v : Value) (wr : World) : Prop := ∃ i q : Nat, v = .int .i64 i ∧ i ≤ n ∧ wr = wo.drewN q

set_option maxRecDepth 100000 in
set_option maxHeartbeats 4000000 in
theorem runs_same (A1 A2 : Option Addr) (c1 c2 : Nat) (ts : List (Nat × Nat)) (w : World) (h1 : Prs w A1 ts) (h2 : Prs w A2 ts) (hl : ts.length ≤ 100000) (hb : ∀ x ∈ ts, x.1 ≤ 2097152 ∧ x.2 ≤ 9) :
    Calls Try.prog 19 #[.slice A1 ts.length c1, .slice A2 ts.length c2] w fun e w' => e = .returned (.bool true) ∧ ∃ q, w' = w.drewN q := by
  have H1 := Lib.hid h1
  have H2 := Lib.hid h2
  have HB := Lib.hid hb
  obtain ⟨n, hn⟩ : ∃ n, ts.length = n := ⟨_, rfl⟩
  rw [hn] at hl ⊢
  have HN := Lib.hid hn
  clear h1 h2 hb hn
  go_enter Try.func19, Try.ntmps19
  go_wp2_with fail
  obtain ⟨wo, rfl⟩ : ∃ wo : World, wo = w := ⟨_, rfl⟩
  go_loopw [5] (RuR n wo) (fun v _ => n - cntI v)
  case atStart => exact ⟨0, 0, rfl, Nat.zero_le _, rfl⟩
  case round =>
    obtain ⟨i, q, rfl, hi, rfl⟩ := hrel
    by_cases hin : i < n
    · have g0 : decide ((i : Int) < (n : Int)) = true := by simp; exact hin
      have g0' : decide (i < n) = true := by simp; exact hin
      have hin2 : (i : Int) < (n : Int) := by omega
      obtain ⟨⟨f, o⟩, hx⟩ : ∃ x, ts[i]? = some x := ⟨_, List.getElem?_eq_getElem (by rw [HN.out]; exact hin)⟩
      obtain ⟨x0, x1⟩ := flat_pv hx
      obtain ⟨ga, rfl, k0⟩ := H1.out _ _ x0
      obtain ⟨_, e9, k1⟩ := H1.out _ _ x1
      cases e9
      obtain ⟨gb, rfl, l0⟩ := H2.out _ _ x0
      obtain ⟨_, e9, l1⟩ := H2.out _ _ x1
      cases e9
      have hne : ∀ W, (binOp .neq 34 (.agg #[.int .i64 (f : Int), .int .i64 (o : Int)]) (.agg #[.int .i64 (f : Int), .int .i64 (o : Int)])).run Try.prog W = .ok (.bool false) W := fun W => by rw [pair_neq]; simp
      clear hx x0 x1
      go_wp2_with fail
      go_quiet (fail)
      go_wp2
      go_roundw
      case rel => exact ⟨i + 1, _, by go_num, by omega, rfl⟩
      case measure => simp [cntI]; omega
    · have g0 : decide ((i : Int) < (n : Int)) = false := by simp; omega
      have g0' : decide (i < n) = false := by simp; omega
      go_wp2
      go_ret
      exact ⟨rfl, _, rfl⟩

def inR (x : Nat × Nat) (k : Nat) : Prop := x.1 ≤ k ∧ k < x.1 + 2 ^ x.2

/-- What has been taken. -/
structure Tk (fi n : Nat) (S : Nat → Bool) (T : List (Nat × Nat)) : Prop where
  al : ∀ x ∈ T, x.1 % 2 ^ x.2 = 0 ∧ x.2 ≤ 9 ∧ fi ≤ x.1 ∧ x.1 + 2 ^ x.2 ≤ fi + n
  dis : T.Pairwise fun x y => ∀ k, inR x k → ¬ inR y k
  set : ∀ k, S k = true ↔ (fi ≤ k ∧ k < fi + n) ∧ ∀ x ∈ T, ¬ inR x k

theorem Tk.nil (fi n : Nat) : Tk fi n (seg fi n) [] := ⟨fun x hx => (by cases hx), List.Pairwise.nil, fun k => by rw [seg_iff]; exact ⟨fun h => ⟨h, fun x hx => by cases hx⟩, fun h => h.1⟩⟩

theorem Tk.snoc {fi n o f k : Nat} {S : Nat → Bool} {T : List (Nat × Nat)} (h : Tk fi n S T) (hl : Least S o f k) (ho : o ≤ 9) : Tk fi n (Bud.less S f o) (T ++ [(f, o)]) := by
  have hp := Bud.pow_pos o
  have hle := Bud.pow_le hl.ok
  have hall : ∀ z, f ≤ z → z < f + 2 ^ o → S z = true := fun z z1 z2 => hl.mx.all z z1 (by omega)
  refine ⟨fun x hx => ?_, ?_, fun z => ?_⟩
  · rcases List.mem_append.1 hx with hx | hx
    · exact h.al x hx
    · rw [List.mem_singleton.1 hx]
      have q1 := ((h.set f).1 (hall f (Nat.le_refl _) (by omega))).1
      have q2 := ((h.set (f + 2 ^ o - 1)).1 (hall _ (by omega) (by omega))).1
      exact ⟨Bud.mod_le hl.mx.al hl.ok, ho, q1.1, by show f + 2 ^ o ≤ fi + n; omega⟩
  · rw [List.pairwise_append]
    refine ⟨h.dis, List.pairwise_singleton .., fun x hx y hy z hz hzy => ?_⟩
    rw [List.mem_singleton.1 hy] at hzy
    exact ((h.set z).1 (hall z hzy.1 hzy.2)).2 x hx hz
  · rw [Bud.less_iff, h.set z]
    constructor
    · rintro ⟨⟨h1, h2⟩, h3⟩
      refine ⟨h1, fun x hx => ?_⟩
      rcases List.mem_append.1 hx with hx | hx
      · exact h2 x hx
      · rw [List.mem_singleton.1 hx]; exact h3
    · rintro ⟨h1, h2⟩
      exact ⟨⟨h1, fun x hx => h2 x (List.mem_append_left _ hx)⟩, h2 (f, o) (List.mem_append_right _ (List.mem_singleton.2 rfl))⟩

/-- What has been given back: the runs at the places of D. -/
def Gvn (fi n : Nat) (S : Nat → Bool) (T : List (Nat × Nat)) (D : Nat → Prop) : Prop := ∀ k, S k = true ↔ (fi ≤ k ∧ k < fi + n) ∧ ∀ j x, T[j]? = some x → inR x k → D j

theorem Gvn.start {fi n : Nat} {S : Nat → Bool} {T : List (Nat × Nat)} (h : Tk fi n S T) : Gvn fi n S T fun _ => False := fun k => by
  rw [h.set k]
  exact ⟨fun ⟨a, b⟩ => ⟨a, fun j x hx hi => b x (List.mem_of_getElem? hx) hi⟩, fun ⟨a, b⟩ => ⟨a, fun x hx hi => by
    obtain ⟨j, hj⟩ := List.mem_iff_getElem?.1 hx
    exact b j x hj hi⟩⟩

theorem dis_get {T : List (Nat × Nat)} (h : T.Pairwise fun x y => ∀ k, inR x k → ¬ inR y k) {i j k : Nat} {x y : Nat × Nat} (hi : T[i]? = some x) (hj : T[j]? = some y) (h1 : inR x k) (h2 : inR y k) : i = j := by
  obtain ⟨q1, e1⟩ := List.getElem?_eq_some_iff.1 hi
  obtain ⟨q2, e2⟩ := List.getElem?_eq_some_iff.1 hj
  have hp := List.pairwise_iff_getElem.1 h
  rcases Nat.lt_trichotomy i j with hl | he | hg
  · have := hp i j q1 q2 hl k
    rw [e1, e2] at this
    exact absurd h2 (this h1)
  · exact he
  · have := hp j i q2 q1 hg k
    rw [e1, e2] at this
    exact absurd h1 (this h2)

theorem Gvn.free {fi n p k : Nat} {S : Nat → Bool} {T : List (Nat × Nat)} {D : Nat → Prop} {x : Nat × Nat} (h : Gvn fi n S T D) (hp : T[p]? = some x) (hd : ¬ D p) (hk : inR x k) : S k = false := by
  cases hs : S k
  · rfl
  · exact absurd (((h k).1 hs).2 p x hp hk) hd

theorem Gvn.step {fi n p : Nat} {S S' S0 : Nat → Bool} {T : List (Nat × Nat)} {D : Nat → Prop} {x : Nat × Nat} (h : Gvn fi n S T D) (ht : Tk fi n S0 T) (hp : T[p]? = some x) (hS : ∀ k, S' k = true ↔ S k = true ∨ inR x k) : Gvn fi n S' T fun j => D j ∨ j = p := fun k => by
  rw [hS k, h k]
  constructor
  · rintro (⟨a, b⟩ | hk)
    · exact ⟨a, fun j y hj hy => .inl (b j y hj hy)⟩
    · have h1 := ht.al x (List.mem_of_getElem? hp)
      refine ⟨by have := hk.1; have := hk.2; omega, fun j y hj hy => .inr (dis_get ht.dis hj hp hy hk)⟩
  · rintro ⟨a, b⟩
    by_cases hk : inR x k
    · exact .inr hk
    · refine .inl ⟨a, fun j y hj hy => ?_⟩
      rcases b j y hj hy with h1 | h1
      · exact h1
      · subst h1
        rw [hp] at hj
        cases hj
        exact absurd hy hk

theorem Gvn.all {fi n : Nat} {S : Nat → Bool} {T : List (Nat × Nat)} {D : Nat → Prop} (h : Gvn fi n S T D) (hD : ∀ j, j < T.length → D j) : S = seg fi n := by
  funext k
  rw [Bool.eq_iff_iff, seg_iff, h k]
  exact ⟨fun h => h.1, fun h => ⟨h, fun j x hj _ => hD j (List.getElem?_eq_some_iff.1 hj).1⟩⟩

/-- The order of giving. -/
def prm (L c i : Nat) : Nat := if L % 7 = 0 then (i + c) % L else (i * 7 + c) % L
theorem prm_inj {L c i j : Nat} (hi : i < L) (hj : j < L) (h : prm L c i = prm L c j) : i = j := by
  unfold prm at h
  have key : ∀ a b : Nat, (a + c) % L = (b + c) % L → a ≤ b → L ∣ b - a := fun a b e hab => by
    have h1 := Nat.mod_add_div (a + c) L
    have h2 := Nat.mod_add_div (b + c) L
    rw [e] at h1
    refine ⟨(b + c) / L - (a + c) / L, ?_⟩
    rw [Nat.mul_sub]
    have : L * ((a + c) / L) ≤ L * ((b + c) / L) := Nat.mul_le_mul_left _ (Nat.div_le_div_right (by omega))
    omega
  have small : ∀ d, d < L → L ∣ d → d = 0 := fun d h1 h2 => Nat.eq_zero_of_dvd_of_lt h2 h1
  split at h
  · rcases Nat.le_total i j with hl | hl
    · have := small _ (by omega) (key i j h hl); omega
    · have := small _ (by omega) (key j i h.symm hl); omega
  · rename_i h7
    have hc : Nat.Coprime L 7 := by
      have h8 : L % 7 < 7 := Nat.mod_lt _ (by decide)
      unfold Nat.Coprime
      rw [Nat.gcd_comm, Nat.gcd_rec]
      have : ∀ r, r < 7 → ¬ r = 0 → Nat.gcd r 7 = 1 := by decide
      exact this _ h8 h7
    rcases Nat.le_total i j with hl | hl
    · have h1 := key (i * 7) (j * 7) h (by omega)
      rw [← Nat.sub_mul] at h1
      have := small _ (by omega) (hc.dvd_of_dvd_mul_right h1); omega
    · have h1 := key (j * 7) (i * 7) h.symm (by omega)
      rw [← Nat.sub_mul] at h1
      have := small _ (by omega) (hc.dvd_of_dvd_mul_right h1); omega
theorem prm_lt {L c i : Nat} (h : 0 < L) : prm L c i < L := by
  unfold prm
  split <;> exact Nat.mod_lt _ h
theorem prm_all {L c j : Nat} (hj : j < L) : ∃ i, i < L ∧ prm L c i = j := by
  apply Classical.byContradiction
  intro hn
  have h1 : ((j : Int) :: (List.range L).map fun i : Nat => (prm L c i : Int)).Pairwise (· ≠ ·) := by
    rw [List.pairwise_cons]
    refine ⟨fun x hx e => ?_, ?_⟩
    · obtain ⟨i, hi, rfl⟩ := List.mem_map.1 hx
      exact hn ⟨i, List.mem_range.1 hi, by omega⟩
    · rw [List.pairwise_map]
      refine List.Pairwise.imp_of_mem (R := (· < ·)) ?_ List.pairwise_lt_range
      intro a b ha hb hab e
      have := prm_inj (c := c) (List.mem_range.1 ha) (List.mem_range.1 hb) (by omega)
      omega
  have h2 := sub_len (m := (List.range L).map fun i : Nat => (i : Int)) h1 fun x hx => by
    rw [List.mem_map]
    rcases List.mem_cons.1 hx with rfl | hx
    · exact ⟨j, List.mem_range.2 hj, rfl⟩
    · obtain ⟨i, hi, rfl⟩ := List.mem_map.1 hx
      exact ⟨_, List.mem_range.2 (prm_lt (by have := List.mem_range.1 hi; omega)), rfl⟩
  simp at h2
  omega

/-- A buddy, a list that lies and a list that grows. -/
structure Bk (w wr : World) (c fi n : Nat) (S : Nat → Bool) (B : Nat → Prop) (vw : Value) (L0 : List (Nat × Nat)) (vt : Value) (T : List (Nat × Nat)) : Prop where
  bd : BdAt wr w.heap.size c fi n S B
  ww : wr.ownsRow w.heap.size 34 2 vw L0.length (L0.flatMap pv)
  wt : wr.ownsRow w.heap.size 34 2 vt T.length (T.flatMap pv)
  apw : ∀ g, vw.ownBlock = some g → ¬ B g
  apt : ∀ g, vt.ownBlock = some g → ¬ B g
  ne : ∀ g, vw.ownBlock = some g → vt.ownBlock ≠ some g
  be : Below w.heap.size w wr

section
variable {w wr w2 : World} {c fi n : Nat} {S S' : Nat → Bool} {B : Nat → Prop} {vw vt v2 : Value} {L0 T T' : List (Nat × Nat)}
theorem Bk.below (h : Bk w wr c fi n S B vw L0 vt T) (hb : Below wr.heap.size wr w2) : Bk w w2 c fi n S B vw L0 vt T := ⟨h.bd.below hb, own_below h.ww hb, own_below h.wt hb, h.apw, h.apt, h.ne, h.be.trans (hb.mono h.be.size)⟩
theorem Bk.drewN (h : Bk w wr c fi n S B vw L0 vt T) (q : Nat) : Bk w (wr.drewN q) c fi n S B vw L0 vt T := h.below (below_drewN (Below.refl _ _) q)
theorem Bk.to (h : Bk w wr c fi n S B vw L0 vt T) (ht : BdTo wr w2 w.heap.size c fi n S' B) : ∃ B', Bk w w2 c fi n S' B' vw L0 vt T := by
  have h1 := ht.own h.ww h.apw
  have h3 := ht.own h.wt h.apt
  have h2 := ht.bel h.be h.bd (Nat.le_refl _)
  obtain ⟨B', hb, _, hs⟩ := ht
  refine ⟨B', hb, h1, h3, fun g hg hB => ?_, fun g hg hB => ?_, h.ne, h2⟩
  · rcases hs g hB with h4 | h4
    · exact h.apw g hg h4
    · have := (h.ww.lt g hg).2; omega
  · rcases hs g hB with h4 | h4
    · exact h.apt g hg h4
    · have := (h.wt.lt g hg).2; omega
theorem Bk.app (h : Bk w wr c fi n S B vw L0 vt T) (hown : w2.ownsRow w.heap.size 34 2 v2 T'.length (T'.flatMap pv)) (hg : wr.grownBy w2 vt.ownBlock) (ha : v2.ownBlock = vt.ownBlock ∨ ∃ g, v2.ownBlock = some g ∧ wr.heap.size ≤ g) : Bk w w2 c fi n S B vw L0 v2 T' := by
  have ho : Only (fun k => vt.ownBlock = some k) wr w2 := (Only.refl _ wr).grown hg (fun g e => .inl e)
  refine ⟨h.bd.apart ho (fun g hB e => h.apt g e hB), own_apart h.ww ho (fun g hgw e => h.ne g hgw e), hown, h.apw, fun g hg2 hB => ?_, fun g hgw hg2 => ?_, h.be.grown hg h.be.size (fun k e => (h.wt.lt k e).1)⟩
  · rcases ha with ha | ⟨g', ha, hl⟩
    · rw [ha] at hg2; exact h.apt g hg2 hB
    · rw [ha] at hg2; cases hg2
      have := (h.bd.lt hB).2; omega
  · rcases ha with ha | ⟨g', ha, hl⟩
    · rw [ha] at hg2; exact h.ne g hgw hg2
    · rw [ha] at hg2; cases hg2
      have := (h.ww.lt _ hgw).2; omega
end
end Go.Proofs.Ytmmjkebhcihjlaa
