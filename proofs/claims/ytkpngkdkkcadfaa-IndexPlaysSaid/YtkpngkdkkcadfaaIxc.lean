/- Package index: what Add leaves. -/
import Derived.Test.YtkpngkdkkcadfaaIxl
namespace Go.Proofs.Ytkpngkdkkcadfaa
open Go.RowKit Mk

def putS (S : Ki → Option Cx) (k : Ki) (z : Cx) : Ki → Option Cx := fun j => if j = k then some z else S j
def putV (BF : Cx → Option Value) (z : Cx) (v : Value) : Cx → Option Value := fun y => if y = z then some v else BF y
theorem Grp.other {S : Ki → Option Cx} {k : Ki} {z y : Cx} {l : List Int} (h : Grp S y l) (hk : S k = none) (hy : y ≠ z) : Grp (putS S k z) y l := by
  refine ⟨h.1, fun x => ?_⟩
  rw [h.2 x]
  constructor
  · rintro ⟨hx, e⟩
    refine ⟨hx, ?_⟩
    unfold putS
    rw [if_neg (fun e2 => by rw [e2, hk] at e; cases e)]
    exact e
  · rintro ⟨hx, e⟩
    unfold putS at e
    by_cases e2 : (⟨x, hx⟩ : Ki) = k
    · rw [if_pos e2] at e; injection e with e; exact absurd e.symm hy
    · rw [if_neg e2] at e; exact ⟨hx, e⟩
theorem Grp.ins {S : Ki → Option Cx} {k : Ki} {z : Cx} {l : List Int} (h : Grp S z l) (hk : S k = none) : Grp (putS S k z) z (l.take (cn k.1 l) ++ k.1 :: l.drop (cn k.1 l)) := by
  have hn : k.1 ∉ l := fun hm => by
    obtain ⟨hx, e⟩ := (h.2 k.1).1 hm
    rw [show (⟨k.1, hx⟩ : Ki) = k from rfl, hk] at e; cases e
  refine ⟨ins_rise h.1 hn, fun x => ?_⟩
  rw [ins_mem, h.2 x]
  constructor
  · rintro (rfl | ⟨hx, e⟩)
    · exact ⟨k.2, if_pos rfl⟩
    · refine ⟨hx, ?_⟩
      unfold putS
      rw [if_neg (fun e2 => by rw [e2, hk] at e; cases e)]
      exact e
  · rintro ⟨hx, e⟩
    unfold putS at e
    by_cases e2 : (⟨x, hx⟩ : Ki) = k
    · exact .inl (congrArg Subtype.val e2)
    · rw [if_neg e2] at e; exact .inr ⟨hx, e⟩
section
variable {w3 w5 w7 w9 : World} {W c cm ms mb : Nat} {S : Ki → Option Cx} {BF : Cx → Option Value}
theorem Ix.add (h : Ix w3 W c cm ms mb S BF) {k : Ki} {z : Cx} (hk : S k = none) (hd : 0 ≤ k.1 ∧ k.1 < 1000) {v v' : Value} {l : List Int} (hv : BF z = some v ∨ (BF z = none ∧ v = .slice none 0 0)) (hg : Grp S z l)
    (ho1 : Only (fun g => v.ownBlock = some g) w3 w5) (hown : w5.ownsRow W 3 1 v' (l.length + 1) ((l.take (cn k.1 l) ++ k.1 :: l.drop (cn k.1 l)).map iv))
    (hfr : ∀ g, v'.ownBlock = some g → v.ownBlock = some g ∨ w3.heap.size ≤ g)
    (hsm : ∃ N, KMap Try.prog 3 kiK w7 ms N (fun j => if j = k then some (cxV z) else (S j).map cxV)) (ho2 : Only (fun g => g = ms) w5 w7)
    (hbm : ∃ N, KMap Try.prog 53 cxK w9 mb N (putV BF z v')) (ho3 : Only (fun g => g = mb) w7 w9) :
    Ix w9 W c cm ms mb (putS S k z) (putV BF z v') ∧ Only (IxB c ms mb BF) w3 w9 ∧ ∀ g, IxB c ms mb (putV BF z v') g → IxB c ms mb BF g ∨ w3.heap.size ≤ g := by
  have hvap : v.ownBlock ≠ some c ∧ v.ownBlock ≠ some ms ∧ v.ownBlock ≠ some mb := by
    rcases hv with hv | ⟨_, rfl⟩
    · exact h.ap z v hv
    · exact ⟨fun e => (by cases e), fun e => (by cases e), fun e => (by cases e)⟩
  have hvB : ∀ g, v.ownBlock = some g → IxB c ms mb BF g := fun g hg' => by
    rcases hv with hv | ⟨_, rfl⟩
    · exact .inr (.inr (.inr ⟨z, v, hv, hg'⟩))
    · cases hg'
  obtain ⟨N0, hN0⟩ := h.sm
  obtain ⟨M0, hM0⟩ := h.bm
  have l1 := hN0.lt
  have l2 := hM0.lt
  have l3 := h.blk.lt
  have hv'ap : v'.ownBlock ≠ some c ∧ v'.ownBlock ≠ some ms ∧ v'.ownBlock ≠ some mb := by
    refine ⟨fun e => ?_, fun e => ?_, fun e => ?_⟩ <;> rcases hfr _ e with h9 | h9
    · exact hvap.1 h9
    · omega
    · exact hvap.2.1 h9
    · omega
    · exact hvap.2.2 h9
    · omega
  have hoAll : Only (IxB c ms mb BF) w3 w9 := ((ho1.mono fun g hg' => hvB g hg').trans (ho2.mono fun g e => .inr (.inl e))).trans (ho3.mono fun g e => .inr (.inr (.inl e)))
  have ho23 : Only (fun g => g = ms ∨ g = mb) w5 w9 := (ho2.mono fun g e => .inl e).trans (ho3.mono fun g e => .inr e)
  have ho13 : Only (fun g => v.ownBlock = some g ∨ g = ms ∨ g = mb) w3 w9 := (ho1.mono fun g e => .inl e).trans (ho23.mono fun g e => .inr e)
  have hvz : ∀ y vy, BF y = some vy → y ≠ z → ∀ g, vy.ownBlock = some g → v.ownBlock ≠ some g := fun y vy hy hyz g hg' e => by
    rcases hv with hv | ⟨_, rfl⟩
    · exact hyz (h.inj y z vy v g hy hv hg' e)
    · cases e
  refine ⟨⟨?_, ?_, hbm, fun y vy hy => ?_, fun y hy j => ?_, fun y y' vy vy' g hy hy' h1 h2 => ?_, fun y vy hy => ?_, h.lo, h.df, fun j y hj => ?_⟩, hoAll, fun g hg' => ?_⟩
  · refine h.blk.only ho13 ?_
    rintro (e | e | e)
    · exact hvap.1 e
    · exact h.df.1 e
    · exact h.df.2.1 e
  · obtain ⟨N, hN⟩ := hsm
    refine ⟨N, ?_⟩
    rw [show (fun j => (putS S k z j).map cxV) = fun j => if j = k then some (cxV z) else (S j).map cxV from by
      funext j
      unfold putS
      by_cases e : j = k
      · rw [if_pos e, if_pos e]; rfl
      · rw [if_neg e, if_neg e]]
    exact hN.only ho3 h.df.2.2
  · unfold putV at hy
    by_cases e : y = z
    · rw [if_pos e] at hy
      injection hy with hy
      subst hy e
      refine ⟨_, by simp, hg.ins hk, ?_⟩
      have := own_keep hown ho23 fun g hg' e => by
        rcases e with e | e
        · exact hv'ap.2.1 (by rw [hg', e])
        · exact hv'ap.2.2 (by rw [hg', e])
      rw [show (l.take (cn k.1 l) ++ k.1 :: l.drop (cn k.1 l)).length = l.length + 1 from by rw [List.length_append, List.length_cons, List.length_take, List.length_drop]; have := cn_le k.1 l; omega]
      exact this
    · rw [if_neg e] at hy
      obtain ⟨ly, h1, h2, h3⟩ := h.row y vy hy
      refine ⟨ly, h1, h2.other hk e, own_keep h3 ho13 fun g hg' e2 => ?_⟩
      rcases e2 with e2 | e2 | e2
      · exact hvz y vy hy e g hg' e2
      · exact (h.ap y vy hy).2.1 (by rw [hg', e2])
      · exact (h.ap y vy hy).2.2 (by rw [hg', e2])
  · unfold putV at hy
    by_cases e : y = z
    · rw [if_pos e] at hy; cases hy
    · rw [if_neg e] at hy
      unfold putS
      by_cases e2 : j = k
      · rw [if_pos e2]; intro e3; injection e3 with e3; exact e e3.symm
      · rw [if_neg e2]; exact h.non y hy j
  · unfold putV at hy hy'
    have far : ∀ y1 v1, BF y1 = some v1 → y1 ≠ z → v1.ownBlock = some g → v'.ownBlock = some g → False := fun y1 v1 a1 a2 a3 a4 => by
      rcases hfr g a4 with h9 | h9
      · exact hvz y1 v1 a1 a2 g a3 h9
      · obtain ⟨l9, _, _, h3⟩ := h.row y1 v1 a1
        have := (h3.lt g a3).2
        omega
    by_cases e : y = z
    · by_cases e' : y' = z
      · rw [e, e']
      · rw [if_pos e] at hy
        rw [if_neg e'] at hy'
        injection hy with hy
        subst hy
        exact (far y' vy' hy' e' h2 h1).elim
    · rw [if_neg e] at hy
      by_cases e' : y' = z
      · rw [if_pos e'] at hy'
        injection hy' with hy'
        subst hy'
        exact (far y vy hy e h1 h2).elim
      · rw [if_neg e'] at hy'
        exact h.inj y y' vy vy' g hy hy' h1 h2
  · unfold putV at hy
    by_cases e : y = z
    · rw [if_pos e] at hy; injection hy with hy; subst hy; exact hv'ap
    · rw [if_neg e] at hy; exact h.ap y vy hy
  · unfold putS at hj
    by_cases e : j = k
    · rw [e]; exact hd
    · rw [if_neg e] at hj; exact h.dom j y hj
  · rcases hg' with hg' | hg' | hg' | ⟨y, vy, hy, hg'⟩
    · exact .inl (.inl hg')
    · exact .inl (.inr (.inl hg'))
    · exact .inl (.inr (.inr (.inl hg')))
    · unfold putV at hy
      by_cases e : y = z
      · rw [if_pos e] at hy
        injection hy with hy
        subst hy
        rcases hfr g hg' with h9 | h9
        · exact .inl (hvB g h9)
        · exact .inr h9
      · rw [if_neg e] at hy
        exact .inl (.inr (.inr (.inr ⟨y, vy, hy, hg'⟩)))
end
end Go.Proofs.Ytkpngkdkkcadfaa
