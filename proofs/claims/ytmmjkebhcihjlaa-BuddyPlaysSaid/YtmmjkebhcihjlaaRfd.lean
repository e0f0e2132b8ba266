/- The document's own answer for package buddy: Take. -/
import Derived.Test.YtmmjkebhcihjlaaRfc
namespace Go.Proofs.Ytmmjkebhcihjlaa
open Go.RowKit

/-- What the look has found. -/
def Fnd (l : List (Nat × Nat)) (o : Nat) (want best : Int) : Prop := (want = -1 ∧ best = 10 ∧ ∀ x ∈ l, x.2 < o) ∨ ∃ f k : Nat, want = f ∧ best = k ∧ (f, k) ∈ l ∧ o ≤ k ∧ ∀ x ∈ l, o ≤ x.2 → k ≤ x.2 ∧ (x.2 = k → f ≤ x.1)
theorem Fnd.same {l : List (Nat × Nat)} {o f p : Nat} {want best : Int} (h : Fnd l o want best) (hp : p ≤ 9) (hn : ¬ (o ≤ p ∧ (p : Int) < best)) (hf : ∀ x ∈ l, x.1 ≤ f) : Fnd (l ++ [(f, p)]) o want best := by
  rcases h with ⟨h1, h2, h3⟩ | ⟨g, k, h1, h2, h3, h4, h5⟩
  · refine .inl ⟨h1, h2, fun x hx => ?_⟩
    rcases List.mem_append.1 hx with hx | hx
    · exact h3 x hx
    · rw [List.mem_singleton.1 hx]
      show p < o
      omega
  · refine .inr ⟨g, k, h1, h2, List.mem_append_left _ h3, h4, fun x hx hox => ?_⟩
    rcases List.mem_append.1 hx with hx | hx
    · exact h5 x hx hox
    · have e := List.mem_singleton.1 hx
      subst e
      have hox' : o ≤ p := hox
      refine ⟨by show k ≤ p; omega, fun _ => hf _ h3⟩
theorem Fnd.new {l : List (Nat × Nat)} {o f p : Nat} {want best : Int} (h : Fnd l o want best) (h1 : o ≤ p) (h2 : (p : Int) < best) : Fnd (l ++ [(f, p)]) o f p := by
  refine .inr ⟨f, p, rfl, rfl, List.mem_append_right _ (List.mem_singleton.2 rfl), h1, fun x hx hox => ?_⟩
  rcases List.mem_append.1 hx with hx | hx
  · rcases h with ⟨_, _, h5⟩ | ⟨g, k, _, h4, h5, h6, h7⟩
    · have := h5 x hx; omega
    · have := (h7 x hx hox).1
      exact ⟨by omega, fun e => by omega⟩
  · have e := List.mem_singleton.1 hx
    subst e
    exact ⟨Nat.le_refl _, fun _ => Nat.le_refl _⟩
theorem Fnd.least {S : Nat → Bool} {l : List (Nat × Nat)} {o : Nat} {want best : Int} (h : Fnd l o want best) (hr : RunsOf S l) : (want = -1 ∧ ∀ f p, o ≤ p → ¬ Bud.Mx S f p) ∨ ∃ f k : Nat, want = f ∧ Least S o f k := by
  rcases h with ⟨h1, h2, h3⟩ | ⟨g, k, h1, h2, h3, h4, h5⟩
  · refine .inl ⟨h1, fun f p hp hm => ?_⟩
    have := h3 _ ((hr.2 f p).2 hm)
    have this' : p < o := this
    omega
  · refine .inr ⟨g, k, h1, h4, fun g' p hp hpk hm => ?_, (hr.2 g k).1 h3, fun g' hm => ?_⟩
    · have := (h5 _ ((hr.2 g' p).2 hm) hp).1
      have this' : k ≤ p := this
      omega
    · exact (h5 _ ((hr.2 g' k).2 hm) h4).2 rfl


theorem Least.unique {S : Nat → Bool} {o f k f' k' : Nat} (h : Least S o f k) (h' : Least S o f' k') : f = f' ∧ k = k' := by
  have e : k = k' := by
    rcases Nat.lt_trichotomy k k' with h1 | h1 | h1
    · exact absurd h.mx (h'.min f k h.ok h1)
    · exact h1
    · exact absurd h'.mx (h.min f' k' h'.ok h1)
  subst e
  have h1 := h.least _ h'.mx
  have h2 := h'.least _ h.mx
  exact ⟨by omega, rfl⟩

def lessI (S : Nat → Bool) (f t : Nat) : Nat → Bool := fun k => S k && !(decide (f ≤ k) && decide (k < f + t))
theorem lessI_zero (S : Nat → Bool) (f : Nat) : lessI S f 0 = S := by
  funext k
  unfold lessI
  rw [show (decide (f ≤ k) && decide (k < f + 0)) = false by
    rw [Bool.and_eq_false_iff]
    by_cases h : f ≤ k
    · right; simp; omega
    · left; simp; omega]
  simp
theorem lessI_succ (S : Nat → Bool) (f t k : Nat) : lessI S f (t + 1) k = if k = f + t then false else lessI S f t k := by
  unfold lessI
  by_cases e : k = f + t
  · rw [if_pos e, show decide (f ≤ k) = true by simp; omega, show decide (k < f + (t + 1)) = true by simp; omega]; simp
  · rw [if_neg e, show decide (k < f + (t + 1)) = decide (k < f + t) by rw [Bool.eq_iff_iff, decide_eq_true_eq, decide_eq_true_eq]; omega]

/-- The place that has been found. -/
def FkR (ts : List (Nat × Nat)) (o : Nat) (wo : World) (vk vi : Value) (wr : World) : Prop := ∃ (i : Nat) (want best : Int), vi = .int .i64 i ∧ i ≤ ts.length ∧ Fnd (ts.take i) o want best ∧ ((vk = .int .i64 (-1) ∧ best = 10) ∨ ∃ j f p : Nat, vk = .int .i64 j ∧ j < i ∧ ts[j]? = some (f, p) ∧ want = f ∧ best = p) ∧ ∃ q, wr = wo.drewN q
def TtR (w : World) (W c g fi n : Nat) (S : Nat → Bool) (f t : Nat) (v : Value) (wr : World) : Prop := ∃ i : Nat, v = .int .i64 i ∧ i ≤ t ∧ RfTo w wr W c g fi n (lessI S f i)

section
variable {w w' : World} {W c g fi n : Nat} {S S' : Nat → Bool}

theorem rtake_bad (c : Nat) (x : Int) (w : World) (hx : x < 0 ∨ 10 ≤ x) :
    Calls Try.prog 12 #[.pointer (some ⟨c, 0, none⟩), .int .i64 x] w fun e w' => e = .returned (.tuple #[.int .i64 0, .int .i64 1]) ∧ w = w' := by
  rcases hx with hx | hx
  · have g1 : decide (x < 0) = true := by simp; omega
    go_enter Try.func12, Try.ntmps12
    go_wp2
    go_ret2
    exact ⟨rfl, rfl⟩
  · have g1 : decide (x < 0) = false := by simp; omega
    have g2 : decide (9 < x) = true := by simp; omega
    go_enter Try.func12, Try.ntmps12
    go_wp2
    go_ret2
    exact ⟨rfl, rfl⟩

set_option maxRecDepth 100000 in
set_option maxHeartbeats 4000000 in
theorem rtake (h : RfAt w W c g fi n S) (hn : n ≤ 1500) {o : Nat} (ho : o < 10) :
    Calls Try.prog 12 #[.pointer (some ⟨c, 0, none⟩), .int .i64 o] w fun e w' => (e = .returned (.tuple #[.int .i64 0, .int .i64 10]) ∧ RfTo w w' W c g fi n S ∧ ∀ f p, o ≤ p → ¬ Bud.Mx S f p) ∨ ∃ f k, Least S o f k ∧ e = .returned (.tuple #[.int .i64 (f : Nat), .int .i64 0]) ∧ RfTo w w' W c g fi n (Bud.less S f o) := by
  have HR := Lib.hid h
  have hh := h.hi
  have g1 : decide ((o : Int) < 0) = false := by simp
  have g2 : decide ((9 : Int) < (o : Int)) = false := by simp; omega
  clear h
  go_enter Try.func12, Try.ntmps12
  go_wp2_with fail
  refine (rruns HR.out hn).mono ?_; rintro e w2 ⟨v, ts, rfl, hts, hown, hb⟩
  have HT := Lib.hid hts
  have HR2 := Lib.hid (show RfTo w w2 W c g fi n S from ⟨HR.out.below hb, only_fresh hb⟩)
  obtain ⟨Av, cv, rfl, hcell⟩ := own_sl hown
  have HC := Lib.hid (show Prs w2 Av ts from hcell)
  obtain ⟨N, hN⟩ : ∃ N, ts.length = N := ⟨_, rfl⟩
  rw [hN]
  have HN := Lib.hid hN
  have hNb : N ≤ 1500 := by
    have h1 := HT.out.sum (a := fi) (n := n) HR2.out.1.rng
    have h2 := sumR_len ts
    have h3 := cntS_le S fi n
    omega
  clear hts hown hb hcell hN HR
  go_wp2_with fail
  obtain ⟨wo, rfl⟩ : ∃ wo : World, wo = w2 := ⟨_, rfl⟩
  go_loopw [7, 8] (FkR ts o wo) (fun _ v _ => N - cntI v)
  case atStart => exact ⟨0, -1, 10, rfl, Nat.zero_le _, .inl ⟨rfl, rfl, fun x hx => by cases hx⟩, .inl ⟨rfl, rfl⟩, 0, rfl⟩
  case round =>
    obtain ⟨i, want, best, rfl, hi, hfn, hcase, q, rfl⟩ := hrel
    have HFN := Lib.hid hfn
    rw [HN.out] at hi
    clear hfn
    by_cases hiN : i < N
    · have g0 : decide ((i : Int) < (N : Int)) = true := by simp; exact hiN
      have g0' : decide (i < N) = true := by simp; exact hiN
      have hiN2 : (i : Int) < (N : Int) := by omega
      obtain ⟨⟨f, p⟩, hx⟩ : ∃ x, ts[i]? = some x := ⟨_, List.getElem?_eq_getElem (by rw [HN.out]; exact hiN)⟩
      have hp9 := ((HT.out.2 f p).1 (List.mem_of_getElem? hx)).le
      obtain ⟨x0, x1⟩ := flat_pv hx
      obtain ⟨ga, rfl, q1⟩ := HC.out _ _ x1
      have htk : ts.take (i + 1) = ts.take i ++ [(f, p)] := by rw [List.take_add_one, hx]; rfl
      have HLT := Lib.hid (show ∀ x ∈ ts.take i, x.1 ≤ f from fun x hxm => by
        obtain ⟨j, hj, e⟩ := List.mem_iff_getElem.1 hxm
        rw [List.length_take] at hj
        rw [List.getElem_take] at e
        obtain ⟨q2, e2⟩ := List.getElem?_eq_some_iff.1 hx
        have := (List.pairwise_iff_getElem.1 HT.out.1) j i (by omega) q2 (by omega)
        rw [e2, e] at this
        exact Nat.le_of_lt this)
      have HTK := Lib.hid htk
      have HXX := Lib.hid hx
      clear hx x0 x1 htk
      by_cases k1' : o ≤ p
      · have r1 : decide ((o : Int) ≤ (p : Int)) = true := by simp; exact k1'
        have r1' : decide (o ≤ p) = true := by simp; exact k1'
        rcases hcase with ⟨rfl, hbst⟩ | ⟨j, f', p', rfl, hj, hxj, hw', hbst⟩
        · go_wp2_with fail
          go_quiet (fail)
          go_wp2
          go_roundw
          case rel => exact ⟨i + 1, f, p, by go_num, by rw [HN.out]; omega, by rw [HTK.out]; exact HFN.out.new k1' (by omega), .inr ⟨i, f, p, rfl, by omega, HXX.out, rfl, rfl⟩, _, rfl⟩
          case measure => simp [cntI]; omega
        · obtain ⟨y0, y1⟩ := flat_pv hxj
          obtain ⟨_, e9, l1⟩ := HC.out _ _ y1
          cases e9
          have hjN : j < N := by omega
          have hjN2 : (j : Int) < (N : Int) := by omega
          have j0 : decide ((j : Int) < 0) = false := by simp
          have HXJ := Lib.hid hxj
          have HW := Lib.hid hw'
          have HBT := Lib.hid hbst
          clear y0 y1 hxj hw' hbst
          by_cases k2' : p < p'
          · have r2 : decide ((p : Int) < (p' : Int)) = true := by simp; exact k2'
            have r2' : decide (p < p') = true := by simp; exact k2'
            have hbst : (p' : Int) = best := HBT.out.symm
            have HK := Lib.hid (show Fnd (ts.take i ++ [(f, p)]) o f p from HFN.out.new k1' (by omega))
            clear hbst
            go_wp2_with fail
            go_quiet (fail)
            go_wp2
            go_roundw
            case rel => exact ⟨i + 1, f, p, by go_num, by rw [HN.out]; omega, by rw [HTK.out]; exact HK.out, .inr ⟨i, f, p, rfl, by omega, HXX.out, rfl, rfl⟩, _, rfl⟩
            case measure => simp [cntI]; omega
          · have r2 : decide ((p : Int) < (p' : Int)) = false := by simp; omega
            have r2' : decide (p < p') = false := by simp; omega
            have HK := Lib.hid (show Fnd (ts.take i ++ [(f, p)]) o want best from HFN.out.same hp9 (fun h => by have := HBT.out; omega) HLT.out)
            go_wp2_with fail
            go_quiet (fail)
            go_wp2
            go_roundw
            case rel => exact ⟨i + 1, want, best, by go_num, by rw [HN.out]; omega, by rw [HTK.out]; exact HK.out, .inr ⟨j, f', p', rfl, by omega, HXJ.out, HW.out, HBT.out⟩, _, rfl⟩
            case measure => simp [cntI]; omega
      · have r1 : decide ((o : Int) ≤ (p : Int)) = false := by simp; omega
        have r1' : decide (o ≤ p) = false := by simp; omega
        have HCA := Lib.hid hcase
        clear hcase
        go_wp2_with fail
        go_quiet (fail)
        go_wp2
        go_roundw
        case rel => exact ⟨i + 1, want, best, by go_num, by rw [HN.out]; omega, by rw [HTK.out]; exact HFN.out.same hp9 (fun h => k1' h.1) HLT.out, by
          rcases HCA.out with h | ⟨j, f', p', h1, h2, h3⟩
          · exact .inl h
          · exact .inr ⟨j, f', p', h1, by omega, h3⟩, _, rfl⟩
        case measure => simp [cntI]; omega
    · have g0 : decide ((i : Int) < (N : Int)) = false := by simp; omega
      have g0' : decide (i < N) = false := by simp; omega
      have hfn := HFN.out
      rw [List.take_of_length_le (by rw [HN.out]; omega)] at hfn
      have hle := hfn.least HT.out
      rcases hcase with ⟨rfl, hbst⟩ | ⟨j, f', p', rfl, hj, hxj, hw', hbst⟩
      · have hno : ∀ f p, o ≤ p → ¬ Bud.Mx S f p := by
          rcases hfn with ⟨h1, h2, h3⟩ | ⟨f, k, h1, h2, h3, h4, h5⟩
          · intro f p hp hm
            have := h3 _ ((HT.out.2 f p).2 hm)
            have this' : p < o := this
            omega
          · have := ((HT.out.2 f k).1 h3).le
            omega
        have HNO := Lib.hid hno
        clear hno hle hfn hbst
        go_wp2
        go_ret2
        exact .inl ⟨rfl, ⟨HR2.out.1.drewN q, HR2.out.2.drewN q⟩, HNO.out⟩
      · have hl : Least S o f' p' := by
          rcases hle with ⟨h1, _⟩ | ⟨f, k, h1, h2⟩
          · omega
          · rcases hfn with ⟨h3, _⟩ | ⟨f2, k2, h3, h4, h5, h6, h7⟩
            · omega
            · have e1 : f2 = f' := by omega
              have e2 : k2 = p' := by omega
              rw [e1, e2] at h5
              have hm := (HT.out.2 f' p').1 h5
              have e3 : f = f' := by omega
              subst e3
              have := h2.mx.unique hm (k := f) (Nat.le_refl _) (by have := Bud.pow_pos k; omega) (Nat.le_refl _) (by have := Bud.pow_pos p'; omega)
              rw [← this.2]; exact h2
        have HL := Lib.hid hl
        obtain ⟨y0, y1⟩ := flat_pv hxj
        obtain ⟨ga, rfl, l0⟩ := HC.out _ _ y0
        have hm := hl.mx
        have hjN : j < N := by omega
        have hjN2 : (j : Int) < (N : Int) := by omega
        have j0 : decide ((j : Int) < 0) = false := by simp
        have hkk := Bud.pow_le hl.ok
        have q1 := HR2.out.1.rng f' (hm.all f' (Nat.le_refl _) (by have := Bud.pow_pos p'; omega))
        have q2 := HR2.out.1.rng (f' + 2 ^ p' - 1) (hm.all _ (by have := Bud.pow_pos p'; omega) (by have := Bud.pow_pos p'; omega))
        obtain ⟨t, ht, ht2, ht3, ht4⟩ : ∃ t : Nat, (2 : Int) ^ o = (t : Int) ∧ t ≤ 512 ∧ t = 2 ^ o ∧ 0 < t := ⟨2 ^ o, by simp, by have := Bud.pow_le (show o ≤ 9 by omega); omega, rfl, Nat.two_pow_pos o⟩
        obtain ⟨d, hd, hd2⟩ : ∃ d : Nat, (f' : Int) - (fi : Int) = (d : Int) ∧ d = f' - fi := ⟨f' - fi, by omega, rfl⟩
        have hdt : d + t ≤ n := by omega
        have HT3 := Lib.hid ht3
        have HD := Lib.hid (show fi + d = f' from by omega)
        have hwd : IntKind.i64.wrap (d : Int) = (d : Int) := IntWalk.i64_in _ (by omega)
        have HRQ := Lib.hid (show RfTo w (wo.drewN q) W c g fi n S from ⟨HR2.out.1.drewN q, HR2.out.2.drewN q⟩)
        have l9 : (wo.drewN q).cell? ⟨ga, j * 2, none⟩ = some (.int .i64 (f' : Int)) := l0
        clear l0
        generalize wo.drewN q = w5 at *
        clear hl hle hfn hbst hw' hxj y0 y1 hm hkk q1 q2 ht3 hd2 HFN HR2 HC
        have hwo' : IntKind.u64.wrap (o : Int) = (o : Int) := IntWalk.u64_in _ (by omega)
        go_wp2_with fail
        clear l9
        go_loopw [10] (TtR w W c g fi n S f' t) (fun v _ => t - cntI v)
        case atStart => exact ⟨0, rfl, Nat.zero_le _, by rw [lessI_zero]; exact HRQ.out⟩
        case round =>
          clear HRQ
          obtain ⟨x1, rfl, hx1, hrf⟩ := hrel
          have HRJ := Lib.hid hrf
          clear hrf
          by_cases hxt : x1 < t
          · have k5 : decide ((x1 : Int) < (t : Int)) = true := by simp; omega
            have k6 : decide (x1 < t) = true := by simp; omega
            obtain ⟨x, hx, hx2⟩ : ∃ x : Nat, (d : Int) + (x1 : Int) = (x : Int) ∧ x = d + x1 := ⟨d + x1, by omega, rfl⟩
            have hxn : x < n := by omega
            have hxn2 : (x : Int) < (n : Int) := by omega
            have c0 := HRJ.out.1.c0
            have c1 := HRJ.out.1.c1
            have cw := HRJ.out.1.cell hxn
            have cz := HRJ.out.1.frozen x
            have cz0 := HRJ.out.1.blk.frozen 0
            have cz1 := HRJ.out.1.blk.frozen 1
            have HS9 := Lib.hid (HRJ.out.1.set (S' := lessI S f' (x1 + 1)) hxn false (fun k => by rw [lessI_succ, show fi + x = f' + x1 by have := HD.out; omega]))
            clear hx2
            go_wp2_with fail
            go_region
            all_goals go_wp2
            exact ⟨⟨x1 + 1, by go_num, by omega, HS9.out.1.drewN 1, (HRJ.out.2.trans HS9.out.2).drewN 1⟩, by simp [cntI]; omega⟩
          · obtain rfl : x1 = t := by omega
            have k5 : decide ((x1 : Int) < (x1 : Int)) = false := by simp
            go_wp2
            go_ret2
            refine .inr ⟨f', p', HL.out, rfl, ?_⟩
            have := HRJ.out
            rw [HT3.out] at this
            exact this
end
end Go.Proofs.Ytmmjkebhcihjlaa
