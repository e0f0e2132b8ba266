/- Package index: Find. -/
import Derived.Test.YtkpngkdkkcadfaaIxe
namespace Go.Proofs.Ytkpngkdkkcadfaa
open Go.RowKit Mk
section
variable {w : World} {Wm Wx cm cx n : Nat} {G : Int → Nat → Nat} {S : Ki → Option Cx} {Bm Bx : Nat → Prop}
/-- Frame k is alike. -/
def Hit (G : Int → Nat → Nat) (S : Ki → Option Cx) (g : Nat → Nat) (nt k : Int) : Prop := (∃ h, S ⟨k, h⟩ = some (dig g)) ∧ k ≠ nt ∧ ∀ j, j < 4096 → G k j = g j
def FindIs (w : World) (G : Int → Nat → Nat) (S : Ki → Option Cx) (g : Nat → Nat) (nt : Int) (e : Ending) (w' : World) : Prop := Below w.heap.size w w' ∧ ((∃ k, Hit G S g nt k ∧ (∀ k', Hit G S g nt k' → k ≤ k') ∧ e = .returned (.tuple #[.int .i64 k, .bool true])) ∨ ((∀ k, ¬ Hit G S g nt k) ∧ e = .returned (.tuple #[.int .i64 0, .bool false])))
def FiR (w : World) (G : Int → Nat → Nat) (S : Ki → Option Cx) (g : Nat → Nat) (nt : Int) (l : List Int) (vi : Value) (wr : World) : Prop := ∃ i : Nat, vi = .int .i64 i ∧ i ≤ l.length ∧ Below w.heap.size w wr ∧ ∀ j x, j < i → l[j]? = some x → ¬ Hit G S g nt x

theorem own_forms {w : World} {base size n : Nat} {e : TypeId} {v : Value} {xs : List Value} (h : w.ownsRow base e size v n xs) : ∃ A cc, v = .slice A n cc ∧ ∀ j, j < n → ∃ g, A = some ⟨g, 0, none⟩ := by
  rcases h.2 with ⟨rfl, h0⟩ | ⟨g, cap, cur, rfl, _⟩
  · exact ⟨none, 0, by rw [h0], fun j hj => by omega⟩
  · exact ⟨_, _, rfl, fun _ _ => ⟨g, rfl⟩⟩
set_option maxRecDepth 100000 in
set_option maxHeartbeats 8000000 in
theorem xfind (hm : Pm w Wm cm n G Bm) (hx : Xm w Wx cx cm S Bx) (hS : ∀ k z, S k = some z → 0 ≤ k.1 ∧ k.1 < n) {b cap : Nat} {g : Nat → Nat} (hp : Pg w b g) (hg : ∀ j, g j < 256) (nt : Int) :
    Calls Try.prog 10 #[.pointer (some ⟨cx, 0, none⟩), .slice (some ⟨b, 0, none⟩) 4096 cap, .int .i64 nt] w (FindIs w G S g nt) := by
  obtain ⟨ms, mb, BF, hx, rfl⟩ := hx
  have HX := Lib.hid hx
  have HM := Lib.hid hm
  have HP := Lib.hid hp
  have HG := Lib.hid hg
  have HS := Lib.hid hS
  have C := Lib.hid (dof (cap := cap) hp hg)
  obtain ⟨z, hz⟩ : ∃ z, dig g = z := ⟨_, rfl⟩
  rw [hz] at C
  obtain ⟨zv, hzv⟩ : ∃ zv, cxV z = zv := ⟨_, rfl⟩
  rw [hzv] at C
  have c2 := (hx.blk.cell 2).trans rfl
  obtain ⟨M, hM⟩ := hx.bm
  have hl : ∃ v l, (Instr.lookup 72 (.map (some mb)) zv false).run Try.prog w = .ok v w ∧ Grp S z l ∧ w.ownsRow Wx 3 1 v l.length (l.map iv) := by
    have h9 := hM.look false (t := 72) Try.underlying72 (zeroL w) z
    rw [show cxK.val z = zv from hzv] at h9
    cases hb : BF z with
    | some v =>
      rw [hb] at h9
      obtain ⟨l, _, h2, h3⟩ := hx.row z v hb
      exact ⟨v, l, h9, h2, h3⟩
    | none =>
      rw [hb] at h9
      exact ⟨.slice none 0 0, [], h9, ⟨List.Pairwise.nil, fun x => ⟨fun h => (by cases h), fun ⟨h, e⟩ => absurd e (hx.non z hb _)⟩⟩, World.ownsRow_nil _ _ _ _⟩
  obtain ⟨v, l, hlk, hgr, hown⟩ := hl
  obtain ⟨A, cc, rfl, hA⟩ := own_forms hown
  have HZ := Lib.hid hz
  have HGR := Lib.hid hgr
  have HO := Lib.hid hown
  have HA := Lib.hid hA
  have hll : l.length ≤ 1000 := rise_len hgr.1 (n := 1000) fun x hx' => by
    obtain ⟨h, e⟩ := (hgr.2 x).1 hx'
    exact hx.dom _ _ e
  obtain ⟨L, hL⟩ : ∃ L, l.length = L := ⟨_, rfl⟩
  rw [hL] at hlk hll
  have HL := Lib.hid hL
  clear hx hm hp hg hS hz hzv hM hgr hown hA hL
  go_enter Try.func10, Try.ntmps10
  go_wp2_with fail
  refine C.out.mono ?_; rintro e w1 ⟨rfl, rfl⟩
  go_wp2_with fail
  clear C c2 hlk
  go_loopw [28] (FiR w G S g nt l) (fun v _ => L - cntJ v)
  case atStart => exact ⟨0, rfl, Nat.zero_le _, Below.refl _ _, fun j x hj => by omega⟩
  case round =>
    obtain ⟨i, rfl, hi, hbe, hno⟩ := hrel
    have HB := Lib.hid hbe
    have HN := Lib.hid hno
    rw [HL.out] at hi
    clear hbe hno
    by_cases hil : i < L
    · have g1 : decide ((i : Int) < (L : Int)) = true := by simp; exact hil
      have g1' : decide (i < L) = true := by simp; exact hil
      have hil2 : (i : Int) < (L : Int) := by omega
      obtain ⟨gr, rfl⟩ := HA.out i (by rw [HL.out]; exact hil)
      obtain ⟨k, hk⟩ : ∃ k, l[i]? = some k := ⟨_, List.getElem?_eq_getElem (by rw [HL.out]; exact hil)⟩
      have ck : wr.cell? ⟨gr, i, none⟩ = some (.int .i64 k) := by
        have h9 := own_below HO.out HB.out
        have h8 : wr.ownsRow Wx 3 1 (.slice (some ⟨gr, 0, none⟩) l.length cc) l.length (l.map iv) := h9
        rw [h8.cellAt i (by rw [HL.out]; omega), List.getElem?_map, hk]; rfl
      obtain ⟨hwk, hSk⟩ := (HGR.out.2 k).1 (List.mem_of_getElem? hk)
      have hkn := HS.out _ _ hSk
      have HK := Lib.hid (show l[i]? = some k ∧ (∃ h, S ⟨k, h⟩ = some z) ∧ 0 ≤ k ∧ k < (n : Int) from ⟨hk, ⟨hwk, hSk⟩, hkn⟩)
      have c0 := ((HX.out.below HB.out).blk.cell 0).trans rfl
      clear hk hSk hkn
      go_wp2_with fail
      refine (pget (HM.out.below HB.out) k hwk).mono ?_; rintro e w2 ⟨hb2, (⟨_, _, v2, rfl, hr2⟩ | ⟨h0, rfl⟩)⟩
      · obtain ⟨b2, cap2, rfl, _, _⟩ := hr2.form (by omega)
        have HP2 := Lib.hid (Pg.of_own hr2)
        have HB2 := Lib.hid (HB.out.trans (hb2.mono HB.out.size))
        clear hb2 hr2 ck c0
        by_cases hnt : k = nt
        · have r1 : (k != nt) = false := by simp; exact hnt
          have HNH := Lib.hid (show ¬ Hit G S g nt k from fun h => h.2.1 hnt)
          clear hnt
          go_wp2
          refine ⟨⟨i + 1, by go_num, by rw [HL.out]; omega, HB2.out, fun j x hj hx => ?_⟩, by simp [cntJ]; omega⟩
          by_cases e : j = i
          · subst e; rw [HK.out.1] at hx; injection hx with hx; subst hx; exact HNH.out
          · exact HN.out j x (by omega) hx
        · have r1 : (k != nt) = true := by simp; exact hnt
          have HNT := Lib.hid hnt
          clear hnt
          go_wp2_with fail
          refine (pequal HP2.out (HP.out.below HB2.out) (HM.out.bytes k) HG.out).mono ?_; rintro e w3 ⟨r, rfl, hr, rfl⟩
          have HR := Lib.hid hr
          clear hr
          cases r
          · have HNH := Lib.hid (show ¬ Hit G S g nt k from fun h => by have := HR.out.2 h.2.2; cases this)
            go_wp2
            refine ⟨⟨i + 1, by go_num, by rw [HL.out]; omega, HB2.out, fun j x hj hx => ?_⟩, by simp [cntJ]; omega⟩
            by_cases e : j = i
            · subst e; rw [HK.out.1] at hx; injection hx with hx; subst hx; exact HNH.out
            · exact HN.out j x (by omega) hx
          · go_wp2
            go_ret2
            refine ⟨HB2.out, .inl ⟨k, ⟨by rw [HZ.out]; exact HK.out.2.1, HNT.out, HR.out.1 trivial⟩, fun k' hk' => ?_, rfl⟩⟩
            obtain ⟨h9, e9⟩ := hk'.1
            rw [HZ.out] at e9
            obtain ⟨j, hj⟩ := List.mem_iff_getElem?.1 ((HGR.out.2 k').2 ⟨h9, e9⟩)
            rcases Nat.lt_or_ge j i with h | h
            · exact absurd hk' (HN.out j k' h hj)
            · by_cases e : j = i
              · subst e; rw [HK.out.1] at hj; injection hj with hj; omega
              · obtain ⟨q1, q2⟩ := List.getElem?_eq_some_iff.1 hj
                obtain ⟨q3, q4⟩ := List.getElem?_eq_some_iff.1 HK.out.1
                have := List.pairwise_iff_getElem.1 HGR.out.1 i j q3 q1 (by omega)
                omega
      · exact absurd HK.out.2.2 h0
    · obtain rfl : i = L := by omega
      have g1 : decide ((i : Int) < (i : Int)) = false := by simp
      go_wp2
      go_ret2
      refine ⟨HB.out, .inr ⟨fun k hk => ?_, rfl⟩⟩
      obtain ⟨h9, e9⟩ := hk.1
      rw [HZ.out] at e9
      obtain ⟨j, hj⟩ := List.mem_iff_getElem?.1 ((HGR.out.2 k).2 ⟨h9, e9⟩)
      exact HN.out j k (by have := (List.getElem?_eq_some_iff.1 hj).1; have := HL.out; omega) hj hk
end
end Go.Proofs.Ytkpngkdkkcadfaa
