/- The document's own answer for package rmap: List. -/
import Derived.Test.YtdnfjpelhiniaaaRmq
namespace Go.Proofs.Ytdnfjpelhiniaaa
open Go.RowKit Mf

/-- The places among the first i uses. -/
def PlS (xs : List Us) (f : Int) (i : Nat) (ts : List Plc) : Prop := ts.Pairwise (fun a b => plt a b = true) ∧ ∀ p, p ∈ ts ↔ (f, p) ∈ xs.take i
theorem take_snoc {α : Type} {xs : List α} {i : Nat} {x : α} (h : xs[i]? = some x) : xs.take (i + 1) = xs.take i ++ [x] := by rw [List.take_add_one, h]; rfl
theorem PlS.zero (xs : List Us) (f : Int) : PlS xs f 0 [] := ⟨List.Pairwise.nil, fun p => by simp⟩
theorem PlS.skip {xs : List Us} {f f' : Int} {i : Nat} {ts : List Plc} {p' : Plc} (h : PlS xs f i ts) (hx : xs[i]? = some (f', p')) (hf : f' ≠ f) : PlS xs f (i + 1) ts := by
  refine ⟨h.1, fun p => ?_⟩
  rw [h.2 p, take_snoc hx, List.mem_append, List.mem_singleton]
  constructor
  · exact .inl
  · rintro (h1 | h1)
    · exact h1
    · injection h1 with h1 _; exact absurd h1.symm hf
theorem plt_trans {x y z : Plc} (h1 : plt x y = true) (h2 : plt y z = true) : plt x z = true := by
  rw [plt_iff] at *; omega
theorem plt_irr (x : Plc) : plt x x = false := by
  cases h : plt x x
  · rfl
  · rw [plt_iff] at h; omega
/-- Where p stands among them. -/
structure PPos (ts : List Plc) (p : Plc) (k : Nat) : Prop where
  le : k ≤ ts.length
  lo : ∀ j o, j < k → ts[j]? = some o → plt o p = true
  hi : ∀ j o, k ≤ j → ts[j]? = some o → plt p o = true
theorem PlS.ins {xs : List Us} {f : Int} {i k : Nat} {ts : List Plc} {p : Plc} (h : PlS xs f i ts) (hx : xs[i]? = some (f, p)) (hk : PPos ts p k) : PlS xs f (i + 1) (ts.take k ++ p :: ts.drop k) := by
  refine ⟨?_, fun q => ?_⟩
  · rw [List.pairwise_append, List.pairwise_cons]
    have hhi : ∀ a ∈ ts.drop k, plt p a = true := fun a ha => by
      obtain ⟨j, hj⟩ := List.mem_iff_getElem?.1 ha
      rw [List.getElem?_drop] at hj
      exact hk.hi _ _ (by omega) hj
    have hlo : ∀ a ∈ ts.take k, plt a p = true := fun a ha => by
      obtain ⟨j, hj⟩ := List.mem_iff_getElem?.1 ha
      rw [List.getElem?_take] at hj
      split at hj
      · exact hk.lo _ _ (by assumption) hj
      · cases hj
    refine ⟨h.1.sublist (List.take_sublist _ _), ⟨hhi, h.1.sublist (List.drop_sublist _ _)⟩, fun a ha b hb => ?_⟩
    rcases List.mem_cons.1 hb with rfl | hb
    · exact hlo a ha
    · exact plt_trans (hlo a ha) (hhi b hb)
  · rw [take_snoc hx, List.mem_append (s := xs.take i), List.mem_singleton, ← h.2 q, List.mem_append, List.mem_cons]
    have e : q ∈ ts ↔ q ∈ ts.take k ∨ q ∈ ts.drop k := by rw [← List.mem_append, List.take_append_drop]
    rw [e]
    constructor
    · rintro (h1 | h1 | h1)
      · exact .inl (.inl h1)
      · subst h1; exact .inr rfl
      · exact .inl (.inr h1)
    · rintro ((h1 | h1) | h1)
      · exact .inl h1
      · exact .inr (.inr h1)
      · injection h1 with _ h1; exact .inr (.inl h1)
theorem PlS.new {xs : List Us} {f : Int} {i : Nat} {ts : List Plc} {p : Plc} (h : PlS xs f i ts) (hn : xs.Pairwise (· ≠ ·)) (hx : xs[i]? = some (f, p)) : p ∉ ts := fun hm => by
  have h1 := (h.2 p).1 hm
  obtain ⟨j, hj⟩ := List.mem_iff_getElem?.1 h1
  rw [List.getElem?_take] at hj
  split at hj
  · obtain ⟨k1, e1⟩ := List.getElem?_eq_some_iff.1 hj
    obtain ⟨k2, e2⟩ := List.getElem?_eq_some_iff.1 hx
    exact List.pairwise_iff_getElem.1 hn j i k1 k2 (by assumption) (by rw [e1, e2])
  · cases hj
theorem PlS.len {xs : List Us} {f : Int} {i : Nat} {ts : List Plc} (h : PlS xs f i ts) : ts.length ≤ xs.length := by
  have h1 := sub_len' (m := xs.map (·.2)) (h.1.imp fun {a b} hab e => by subst e; rw [plt_irr] at hab; cases hab) (fun p hp => by
    have := (h.2 p).1 hp
    exact List.mem_map.2 ⟨(f, p), List.mem_of_mem_take this, rfl⟩)
  simpa using h1
theorem PlS.all {xs : List Us} {u : Int → Plc → Bool} {f : Int} {ts : List Plc} {n : Nat} (h : PlS xs f n ts) (hn : xs.length = n) (hs : USim xs u) : PlacesOf (u f) ts := by
  subst hn
  exact ⟨h.1, fun p => by rw [h.2 p, List.take_length, hs.2 f p]⟩
/-- Where the search stands: all from k on are greater. -/
def PHi (ts : List Plc) (p : Plc) (k : Nat) : Prop := ∀ j o, k ≤ j → ts[j]? = some o → plt p o = true
theorem PHi.pos0 {ts : List Plc} {p : Plc} (h : PHi ts p 0) : PPos ts p 0 := ⟨Nat.zero_le _, fun j o hj _ => by omega, h⟩
theorem PHi.pos {ts : List Plc} {p o : Plc} {k : Nat} (h : PHi ts p k) (hs : ts.Pairwise (fun a b => plt a b = true)) (ho : ts[k - 1]? = some o) (hk : 0 < k) (hl : plt p o = false) (hm : p ∉ ts) : PPos ts p k := by
  have hkl := (List.getElem?_eq_some_iff.1 ho).1
  have hop : plt o p = true := plt_tot hl fun e => hm (by rw [← e]; exact List.mem_of_getElem? ho)
  refine ⟨by omega, fun j q hj hq => ?_, h⟩
  by_cases e : j = k - 1
  · subst e; rw [ho] at hq; injection hq with hq; subst hq; exact hop
  · obtain ⟨k1, e1⟩ := List.getElem?_eq_some_iff.1 hq
    obtain ⟨k2, e2⟩ := List.getElem?_eq_some_iff.1 ho
    have := List.pairwise_iff_getElem.1 hs j (k - 1) k1 k2 (by omega)
    rw [e1, e2] at this
    exact plt_trans this hop
theorem PHi.step {ts : List Plc} {p o : Plc} {k : Nat} (h : PHi ts p k) (ho : ts[k - 1]? = some o) (hk : 0 < k) (hl : plt p o = true) : PHi ts p (k - 1) := fun j q hj hq => by
  by_cases e : j = k - 1
  · subst e; rw [ho] at hq; injection hq with hq; subst hq; exact hl
  · exact h j q (by omega) hq

theorem prow_slice {w : World} {B : Nat} {v : Value} {xs : List Plc} (h : PRow w B v xs) : ∃ A cc, v = .slice A xs.length cc ∧ xs.length ≤ cc ∧ Reads w w.heap.size 2 A xs.length (xs.flatMap pc) := by
  rcases h.2 with ⟨rfl, h0⟩ | ⟨g, cap, cur, rfl, _, _, hc, _⟩
  · have e : xs = [] := List.eq_nil_of_length_eq_zero h0
    subst e
    exact ⟨none, 0, rfl, Nat.le_refl _, Reads.none_⟩
  · exact ⟨_, _, rfl, hc, Reads.of_own h⟩
theorem reads_pl {w : World} {g : Nat} {t : TypeId} {x : Plc} (h : Blk w g t #[.int .i64 x.1.1, .int .u64 x.1.2]) : Reads w w.heap.size 2 (some ⟨g, 0, none⟩) 1 (pc x) := by
  refine ⟨rfl, fun _ => ⟨_, rfl, h.lt, fun j u hj => ?_⟩⟩
  match j, hj with
  | 0, hj => cases hj; exact (h.cell 0).trans rfl
  | 1, hj => cases hj; exact (h.cell 1).trans rfl
  | j + 2, hj => cases hj
theorem pc_one (x : Plc) : ∀ u ∈ pc x, u.oneCell' = true := fun u hu => by
  simp [pc] at hu
  rcases hu with rfl | rfl <;> rfl
theorem pcs_one {xs : List Plc} : ∀ u ∈ xs.flatMap pc, u.oneCell' = true := fun u hu => by
  obtain ⟨x, _, hx⟩ := List.mem_flatMap.1 hu
  exact pc_one x u hx

/-- The rounds. -/
def RlR (w : World) (c B : Nat) (v : Value) (xs : List Us) (f : Int) (n : Nat) (vo vi : Value) (wr : World) : Prop := ∃ (i : Nat) (ts : List Plc), vi = .int .i64 i ∧ i ≤ n ∧ PRow wr w.heap.size vo ts ∧ PlS xs f i ts ∧ RU wr c B v xs ∧ Below w.heap.size w wr
def RlI (wo : World) (ts : List Plc) (p : Plc) (t : Nat) (vk : Value) (wr : World) : Prop := ∃ k : Nat, vk = .int .i64 k ∧ k ≤ t ∧ PHi ts p k ∧ ∃ q, wr = wo.drewN q

set_option maxRecDepth 100000 in
set_option maxHeartbeats 8000000 in
theorem rulist {w : World} {c B : Nat} {v : Value} {xs : List Us} {u : Int → Plc → Bool} (h : RU w c B v xs) (hs : USim xs u) (hn : xs.length ≤ 900) (f : Int) :
    Calls Try.prog 16 #[.pointer (some ⟨c, 0, none⟩), .int .i64 f] w fun e w' => ∃ (v : Value) (ts : List Plc), e = .returned v ∧ PlacesOf (u f) ts ∧ PRow w' w.heap.size v ts ∧ Below w.heap.size w w' := by
  obtain ⟨n, hnn⟩ : ∃ n, xs.length = n := ⟨_, rfl⟩
  obtain ⟨i0, hi0, hz0', hz1, hz2⟩ := info_parts infoP
  have HN := Lib.hid hnn
  rw [hnn] at hn
  obtain ⟨Av, cv, rfl⟩ : ∃ A cc, v = .slice A n cc := by rw [← hnn]; exact h.own.form
  have HH := Lib.hid h
  have HS := Lib.hid hs
  clear h hs hnn
  go_enter Try.func16, Try.ntmps16
  go_wp2_with fail
  go_loopw [5, 6] (RlR w c B (.slice Av n cv) xs f n) (fun _ v _ => n - cntI v)
  case atStart => exact ⟨0, [], rfl, Nat.zero_le _, World.ownsRow_nil _ _ _ _, PlS.zero _ _, HH.out, Below.refl _ _⟩
  case round =>
    obtain ⟨i, ts, rfl, hi, hrw, hpl, hr, hbe⟩ := hrel
    have HRW := Lib.hid hrw
    have HPL := Lib.hid hpl
    have HR := Lib.hid hr
    have HB := Lib.hid hbe
    clear hrw hpl hr hbe
    have c0 := HR.out.c0
    by_cases hin : i < n
    · have g1 : decide ((i : Int) < (n : Int)) = true := by simp; exact hin
      have g1' : decide (i < n) = true := by simp; exact hin
      have hin2 : (i : Int) < (n : Int) := by omega
      obtain ⟨⟨f', p⟩, hx⟩ : ∃ x, xs[i]? = some x := ⟨_, List.getElem?_eq_getElem (by rw [HN.out]; exact hin)⟩
      obtain ⟨g, rfl, d0, d1, d2⟩ := HR.out.own.cells hx
      have d0 : wr.cell? ⟨g, i * 3, none⟩ = some (.int .i64 f') := d0
      have d1 : wr.cell? ⟨g, i * 3 + 1, none⟩ = some (.int .i64 p.1.1) := d1
      have d2 : wr.cell? ⟨g, i * 3 + 1 + 1, none⟩ = some (.int .u64 p.1.2) := d2
      by_cases hf : f' = f
      · subst hf
        have HX := Lib.hid hx
        have hf1 : (f' != f') = false := by simp
        have hnew := HPL.out.new HS.out.1 hx
        have HNW := Lib.hid hnew
        have htl := HPL.out.len
        rw [HN.out] at htl
        obtain ⟨A, cc, rfl, hcc, hrd⟩ := prow_slice HRW.out
        obtain ⟨t, ht⟩ : ∃ t, ts.length = t := ⟨_, rfl⟩
        rw [ht] at hcc hrd htl
        have HT := Lib.hid ht
        clear hx hnew
        go_wp2_with fail
        clear ht d0 d1 d2 c0
        have hb4 := (Below.refl wr.heap.size wr).alloc (Nat.le_refl _) (.cells #[.int .i64 p.1.1, .int .u64 p.1.2] 31)
        have HBX := Lib.hid (Blk.new wr 31 #[.int .i64 p.1.1, .int .u64 p.1.2])
        replace HR := Lib.hid (HR.out.below hb4)
        replace HRW := Lib.hid (own_below HRW.out hb4)
        replace HB := Lib.hid (HB.out.trans (hb4.mono HB.out.size))
        have HRD := Lib.hid (show Reads (wr.alloc (.cells #[.int .i64 p.1.1, .int .u64 p.1.2] 31)) (wr.alloc (.cells #[.int .i64 p.1.1, .int .u64 p.1.2] 31)).heap.size 2 A t (ts.flatMap pc) from (hrd.below hb4).more (by simp))
        have HCC := Lib.hid hcc
        clear hb4 hrd hcc
        generalize wr.alloc (.cells #[.int .i64 p.1.1, .int .u64 p.1.2] 31) = w4 at *
        generalize wr.heap.size = gp at *
        go_loopw [8] (RlI w4 ts p t) (fun v _ => cntI v)
        case atStart => exact ⟨t, rfl, Nat.le_refl _, fun j o hj ho => by have := (List.getElem?_eq_some_iff.1 ho).1; have := HT.out; omega, 0, rfl⟩
        case round =>
          obtain ⟨k, rfl, hkt, hph, q, rfl⟩ := hrel
          have HPH := Lib.hid hph
          replace HBX := Lib.hid (HBX.out.drewN q)
          replace HR := Lib.hid (HR.out.drewN q)
          replace HB := Lib.hid (below_drewN HB.out q)
          replace HRD := Lib.hid (HRD.out.drewN q)
          replace HRW := Lib.hid (own_below HRW.out (below_drewN (Below.refl _ _) q))
          clear hph
          have HRD : Hid (Reads (w4.drewN q) (w4.drewN q).heap.size 2 A t (ts.flatMap pc)) := HRD
          generalize hw5 : w4.drewN q = w5 at *
          have HW5 := Lib.hid hw5
          clear hw5
          have e0 := (HBX.out.cell 0).trans rfl
          have e1 := (HBX.out.cell 1).trans rfl
          by_cases hk0 : 0 < k
          · have g2 : decide ((k : Int) > 0) = true := by simp; omega
            have g2' : decide (0 < (k : Int)) = true := by simp; omega
            have g2'' : decide (0 < k) = true := by simp; omega
            obtain ⟨z, hz, hz2⟩ : ∃ z : Nat, (k : Int) - 1 = (z : Int) ∧ z = k - 1 := ⟨k - 1, by omega, rfl⟩
            have hzt : z < t := by omega
            have hzt2 : (z : Int) < (t : Int) := by omega
            have hzw : IntKind.i64.wrap (z : Int) = (z : Int) := IntWalk.i64_in _ (by omega)
            obtain ⟨o, ho⟩ : ∃ o, ts[z]? = some o := ⟨_, List.getElem?_eq_getElem (by rw [HT.out]; exact hzt)⟩
            obtain ⟨g', hA, d3, d4⟩ := PRow.cells HRW.out ho
            have HO := Lib.hid (show ts[k - 1]? = some o by rw [← hz2]; exact ho)
            have HK0 := Lib.hid hk0
            clear ho hz2
            cases hA
            by_cases h1 : p.1.1 < o.1.1
            · have r1 : decide (o.1.1 > p.1.1) = true := by simp; exact h1
              have r1' : decide (p.1.1 < o.1.1) = true := by simp; exact h1
              have HL := Lib.hid (show plt p o = true from plt_iff.2 (.inl h1))
              clear h1
              go_wp2_with fail
              go_quiet (fail)
              go_wp2
              exact ⟨⟨k - 1, by rw [← hz]; congr 1; omega, by omega, HPH.out.step HO.out HK0.out HL.out, q + nq, by rw [← HW5.out, World.drewN_drewN]⟩, by simp [cntI]; omega⟩
            · have r1 : decide (o.1.1 > p.1.1) = false := by simp; omega
              have r1' : decide (p.1.1 < o.1.1) = false := by simp; omega
              by_cases h2 : o.1.1 = p.1.1
              · have r2 : (o.1.1 == p.1.1) = true := by simp; exact h2
                by_cases h3 : p.1.2 < o.1.2
                · have r3 : decide (o.1.2 > p.1.2) = true := by simp; exact h3
                  have r3' : decide (p.1.2 < o.1.2) = true := by simp; exact h3
                  have HL := Lib.hid (show plt p o = true from plt_iff.2 (.inr ⟨h2.symm, h3⟩))
                  clear h1 h2 h3
                  go_wp2_with fail
                  go_quiet (fail)
                  go_wp2
                  exact ⟨⟨k - 1, by rw [← hz]; congr 1; omega, by omega, HPH.out.step HO.out HK0.out HL.out, q + nq, by rw [← HW5.out, World.drewN_drewN]⟩, by simp [cntI]; omega⟩
                · have r3 : decide (o.1.2 > p.1.2) = false := by simp; omega
                  have r3' : decide (p.1.2 < o.1.2) = false := by simp; omega
                  have HPP := Lib.hid (HPH.out.pos HPL.out.1 HO.out HK0.out (plt_false.2 (by omega)) HNW.out)
                  clear h1 h2 h3
                  go_wp2_with fail
                  go_quiet (fail)
                  replace HBX := Lib.hid (HBX.out.drewN nq)
                  replace HR := Lib.hid (HR.out.drewN nq)
                  replace HB := Lib.hid (below_drewN HB.out nq)
                  replace HRD := Lib.hid (show Reads (w5.drewN nq) (w5.drewN nq).heap.size 2 (some ⟨g', 0, none⟩) t (ts.flatMap pc) from HRD.out)
                  clear HW5 e0 e1
                  generalize w5.drewN nq = w6 at *
                  obtain ⟨A2, hA2⟩ : ∃ A2, (if cc = k then ((some ⟨g', 0, none⟩) : Option Addr) else Option.map (fun a : Addr => a.add (k * 2)) (some ⟨g', 0, none⟩)) = A2 := ⟨_, rfl⟩
                  have hs1 : ∀ w' : World, (Instr.slice 37 (.slice (some ⟨g', 0, none⟩) t cc) none (some (.int .i64 (k : Int))) none).run Try.prog w' = .ok (.slice (some ⟨g', 0, none⟩) k cc) w' := fun w' => run_cut_lo w' Try.underlying37 hi0 (some ⟨g', 0, none⟩) t cc k (by have := HCC.out; omega)
                  have hs2 : ∀ w' : World, (Instr.slice 37 (.slice (some ⟨g', 0, none⟩) t cc) (some (.int .i64 (k : Int))) none none).run Try.prog w' = .ok (.slice A2 (t - k) (cc - k)) w' := fun w' => by rw [← hA2]; exact run_cut_hi w' Try.underlying37 hi0 2 hz1 (some ⟨g', 0, none⟩) t cc k hkt
                  have HRD1 := Lib.hid (show Reads w6.drew w6.drew.heap.size 2 (some ⟨g', 0, none⟩) k ((ts.take k).flatMap pc) from by rw [← flat_take pc_len]; exact HRD.out.takeS hkt)
                  have HRD2 := Lib.hid (show Reads w6.drew w6.drew.heap.size 2 A2 (t - k) ((ts.drop k).flatMap pc) from by rw [← hA2, ← flat_drop pc_len]; exact Reads.cut (show Reads w6 w6.heap.size 2 (some ⟨g', 0, none⟩) t (ts.flatMap pc) from HRD.out) hkt HCC.out)
                  have SK := Lib.hid (show ∀ w', Below w6.drew.heap.size w6.drew w' → w'.cell? ⟨gp, 0, none⟩ = some (.int .i64 p.1.1) ∧ w'.cell? ⟨gp, 1, none⟩ = some (.int .u64 p.1.2) from fun w' hb => have hx9 : Blk w6.drew gp 31 #[.int .i64 p.1.1, .int .u64 p.1.2] := HBX.out; ⟨((hx9.below hb hx9.lt).cell 0).trans rfl, ((hx9.below hb hx9.lt).cell 1).trans rfl⟩)
                  have HB2 := Lib.hid (show Below w.heap.size w w6.drew from HB.out.drew)
                  have HR2 := Lib.hid (show RU w6.drew c B _ xs from HR.out.drewN 1)
                  clear hA2 HRD HR HB HRW
                  go_upto_region 10 with fail
                  refine wp_region_held_drew (S := (fun w' => w'.cell? ⟨gp, 0, none⟩ = some (.int .i64 p.1.1) ∧ w'.cell? ⟨gp, 1, none⟩ = some (.int .u64 p.1.2))) (by kernel_rfl) ?_ (fun hHeld => ?_)
                  · exact SK.out _ (Below.refl _ _)
                  generalize w6.drew = w0 at *
                  obtain ⟨wc, hwc, HBL, hHeld⟩ : ∃ wc, w0 = wc ∧ Hid (Below w0.heap.size w0 wc) ∧ (wc.cell? ⟨gp, 0, none⟩ = some (.int .i64 p.1.1) ∧ wc.cell? ⟨gp, 1, none⟩ = some (.int .u64 p.1.2)) := ⟨w0, rfl, Lib.hid (Below.refl _ _), hHeld⟩
                  rw [hwc]
                  clear hwc
                  ((refine takeY 1 (v := ?_) rfl (by kernel_rfl) (by kernel_rfl) (by kernel_rfl) (fun _ _ _ h => h) (by rfl) (by assumption) ?_ ?_; rotate_left; · (intro w hSw; (try dsimp only at hSw); go_simp; (first | done | with_reducible rfl))))
                  (try simp only [Act.put, List.setIfInBounds_toArray, List.set_cons_zero, List.set_cons_succ])
                  ((refine takeY 2 (v := ?_) rfl (by kernel_rfl) (by kernel_rfl) (by kernel_rfl) (fun _ _ _ h => h) (by rfl) (by assumption) ?_ ?_; rotate_left; · (intro w hSw; (try dsimp only at hSw); go_simp; (first | done | with_reducible rfl))))
                  (try simp only [Act.put, List.setIfInBounds_toArray, List.set_cons_zero, List.set_cons_succ])
                  ((refine takeY 3 (v := ?_) rfl (by kernel_rfl) (by kernel_rfl) (by kernel_rfl) (fun _ _ _ h => h) (by rfl) (by assumption) ?_ ?_; rotate_left; · (intro w hSw; (try dsimp only at hSw); go_simp; (first | done | with_reducible rfl))))
                  (try simp only [Act.put, List.setIfInBounds_toArray, List.set_cons_zero, List.set_cons_succ])
                  ((refine takeY 5 (v := ?_) rfl (by kernel_rfl) (by kernel_rfl) (by kernel_rfl) (fun _ _ _ h => h) (by rfl) (by assumption) ?_ ?_; rotate_left; · (intro w hSw; (try dsimp only at hSw); go_simp; (first | done | with_reducible rfl))))
                  (try simp only [Act.put, List.setIfInBounds_toArray, List.set_cons_zero, List.set_cons_succ])
                  ((refine takeY 8 (v := ?_) rfl (by kernel_rfl) (by kernel_rfl) (by kernel_rfl) (fun _ _ _ h => h) (by rfl) (by assumption) ?_ ?_; rotate_left; · (intro w hSw; (try dsimp only at hSw); go_simp; (first | done | with_reducible rfl))))
                  (try simp only [Act.put, List.setIfInBounds_toArray, List.set_cons_zero, List.set_cons_succ])
                  ((refine takeY 9 (v := ?_) rfl (by kernel_rfl) (by kernel_rfl) (by kernel_rfl) (fun _ _ _ h => h) (by rfl) (by assumption) ?_ ?_; rotate_left; · (intro w hSw; (try dsimp only at hSw); go_simp; (first | done | with_reducible rfl))))
                  (try simp only [Act.put, List.setIfInBounds_toArray, List.set_cons_zero, List.set_cons_succ])
                  ((refine takeY 10 (v := ?_) rfl (by kernel_rfl) (by kernel_rfl) (by kernel_rfl) (fun _ _ _ h => h) (by rfl) (by assumption) ?_ ?_; rotate_left; · (intro w hSw; (try dsimp only at hSw); go_simp; (first | done | with_reducible rfl))))
                  (try simp only [Act.put, List.setIfInBounds_toArray, List.set_cons_zero, List.set_cons_succ])
                  refine wpAnyH_ready (rs := [0, 6]) (by kernel_rfl) (by simp) ?_
                  refine consH 0 rfl (by rfl) (fun K hK => ?_) (consH 6 rfl (by rfl) (fun K hK => ?_) (AllReadyH.nil))
                  · go_simp
                    (refine hK.out _ _ ?_ (fun hHeld => ?_))
                    · exact SK.out _ (HBL.out.alloc HBL.out.size _)
                    clear hK K
                    have HA := Lib.hid (show (wc.alloc (.cells #[] 31)).ownsRow w0.heap.size 31 2 (.slice (some ⟨wc.heap.size, 0, none⟩) 0 0) 0 [] from World.ownsRow_lit wc #[] 0 HBL.out.size (by unfold maxLen; omega) rfl)
                    replace HBL := Lib.hid (HBL.out.alloc HBL.out.size (.cells #[] 31))
                    generalize hwn : wc.alloc (.cells #[] 31) = wn at *
                    clear hwn
                    generalize hga : wc.heap.size = ga at *
                    clear hga
                    obtain ⟨wc, rfl⟩ : ∃ x : World, x = wn := ⟨_, rfl⟩
                    refine wpAnyH_ready (rs := [4, 6]) (by kernel_rfl) (by simp) ?_
                    refine consH 4 rfl (by rfl) (fun K hK => ?_) (consH 6 rfl (by rfl) (fun K hK => ?_) (AllReadyH.nil))
                    · (refine wp_append_any _ (.tmp 75) (.tmp 78) _ rfl w0.heap.size 31 i0 _ 2 16 Try.underlying37 hi0 hz0' hz1 hz2 rfl (by omega) _ 0 _ rfl HA.out _ (some ⟨g', 0, none⟩) k _ ((ts.take k).flatMap pc) rfl (HRD1.out.below HBL.out) pcs_one (by unfold maxLen; omega) (by omega) HBL.out.size ?_; intro v2 w3 hown2 hg2 hat2)
                      (refine hK.out _ _ ?_ (fun hHeld => ?_))
                      · exact SK.out _ (HBL.out.grown hg2 HBL.out.size (fun g hg => (HA.out.lt g hg).1))
                      clear hK K
                      replace HBL := Lib.hid (HBL.out.grown hg2 HBL.out.size (fun g hg => (HA.out.lt g hg).1))
                      replace HA := Lib.hid hown2
                      clear hown2 hg2 hat2
                      obtain ⟨va, rfl⟩ : ∃ x : Value, x = v2 := ⟨_, rfl⟩
                      obtain ⟨wc, rfl⟩ : ∃ x : World, x = w3 := ⟨_, rfl⟩
                      refine stepH 6 rfl (by kernel_rfl) (by rfl) (fun K hK => ?_)
                      go_simp
                      (refine hK.out _ _ ?_ (fun hHeld => ?_))
                      · exact SK.out _ (HBL.out.alloc HBL.out.size _)
                      clear hK K
                      have HC := Lib.hid (Blk.new wc 31 #[.int .i64 p.1.1, .int .u64 p.1.2])
                      have HNE := Lib.hid (show some wc.heap.size ≠ va.ownBlock from fun e => by have := (HA.out.lt _ e.symm).2; omega)
                      replace HA := Lib.hid (HA.out.alloc (.cells #[.int .i64 p.1.1, .int .u64 p.1.2] 31))
                      replace HBL := Lib.hid (HBL.out.alloc HBL.out.size (.cells #[.int .i64 p.1.1, .int .u64 p.1.2] 31))
                      generalize hwn : wc.alloc (.cells #[.int .i64 p.1.1, .int .u64 p.1.2] 31) = wn at *
                      clear hwn
                      generalize hgc : wc.heap.size = gc at *
                      clear hgc
                      obtain ⟨wc, rfl⟩ : ∃ x : World, x = wn := ⟨_, rfl⟩
                      refine stepH 7 rfl (by kernel_rfl) (by rfl) (fun K hK => ?_)
                      (refine wp_append_any _ (.tmp 79) (.tmp 81) _ rfl w0.heap.size 31 i0 _ 2 16 Try.underlying37 hi0 hz0' hz1 hz2 rfl (by omega) _ (0 + k) _ rfl HA.out _ (some ⟨gc, 0, none⟩) 1 _ (pc p) rfl (reads_pl HC.out) (pc_one p) (by unfold maxLen; omega) (by omega) HBL.out.size ?_; intro v2 w3 hown2 hg2 hat2)
                      (refine hK.out _ _ ?_ (fun hHeld => ?_))
                      · exact SK.out _ (HBL.out.grown hg2 HBL.out.size (fun g hg => (HA.out.lt g hg).1))
                      clear hK K
                      have HC2 := Lib.hid (HC.out.grown hg2 HNE.out)
                      replace HNE := Lib.hid (show some gc ≠ v2.ownBlock from by
                        rcases hat2 with e | e
                        · rw [e]; exact HNE.out
                        · rw [e]; exact fun e => absurd (Option.some.inj e) (by have := HC.out.lt; omega))
                      replace HC := HC2
                      clear HC2
                      replace HBL := Lib.hid (HBL.out.grown hg2 HBL.out.size (fun g hg => (HA.out.lt g hg).1))
                      replace HA := Lib.hid hown2
                      clear hown2 hg2 hat2
                      obtain ⟨va, rfl⟩ : ∃ x : Value, x = v2 := ⟨_, rfl⟩
                      obtain ⟨wc, rfl⟩ : ∃ x : World, x = w3 := ⟨_, rfl⟩
                      refine stepH 11 rfl (by kernel_rfl) (by rfl) (fun K hK => ?_)
                      (refine wp_append_any _ (.tmp 82) (.tmp 85) _ rfl w0.heap.size 31 i0 _ 2 16 Try.underlying37 hi0 hz0' hz1 hz2 rfl (by omega) _ (0 + k + 1) _ rfl HA.out _ A2 (t - k) _ ((ts.drop k).flatMap pc) rfl (HRD2.out.below HBL.out) pcs_one (by unfold maxLen; omega) (by omega) HBL.out.size ?_; intro v2 w3 hown2 hg2 hat2)
                      (refine hK.out _ _ ?_ (fun hHeld => ?_))
                      · exact SK.out _ (HBL.out.grown hg2 HBL.out.size (fun g hg => (HA.out.lt g hg).1))
                      clear hK K
                      have HC2 := Lib.hid (HC.out.grown hg2 HNE.out)
                      replace HNE := Lib.hid (show some gc ≠ v2.ownBlock from by
                        rcases hat2 with e | e
                        · rw [e]; exact HNE.out
                        · rw [e]; exact fun e => absurd (Option.some.inj e) (by have := HC.out.lt; omega))
                      replace HC := HC2
                      clear HC2
                      replace HBL := Lib.hid (HBL.out.grown hg2 HBL.out.size (fun g hg => (HA.out.lt g hg).1))
                      replace HA := Lib.hid hown2
                      clear hown2 hg2 hat2
                      obtain ⟨va, rfl⟩ : ∃ x : Value, x = v2 := ⟨_, rfl⟩
                      obtain ⟨wc, rfl⟩ : ∃ x : World, x = w3 := ⟨_, rfl⟩
                      ((refine takeY 12 (v := ?_) rfl (by kernel_rfl) (by kernel_rfl) (by kernel_rfl) (fun _ _ _ h => h) (by rfl) (by assumption) ?_ ?_; rotate_left; · (intro w hSw; (try dsimp only at hSw); go_simp; (first | done | with_reducible rfl))))
                      (try simp only [Act.put, List.setIfInBounds_toArray, List.set_cons_zero, List.set_cons_succ])
                      refine wpAnyH_done (by kernel_rfl) ?_ _
                      clear hHeld hs1 hs2 HC HNE
                      go_wp2
                      refine ⟨⟨i + 1, ts.take k ++ p :: ts.drop k, by go_num, by omega, ?_, HPL.out.ins HX.out HPP.out, HR2.out.below HBL.out, HB2.out.trans (HBL.out.mono HB2.out.size)⟩, by simp [cntI]; omega⟩
                      have hA9 := HA.out
                      rw [List.nil_append] at hA9
                      show World.ownsRow _ _ _ _ _ _ _
                      rw [show (ts.take k ++ p :: ts.drop k).length = 0 + k + 1 + (t - k) from by rw [List.length_append, List.length_cons, List.length_take, List.length_drop]; have := HT.out; omega, List.flatMap_append, List.flatMap_cons, ← List.append_assoc]
                      exact ownsRow_mono hA9 HB2.out.size
                    · go_simp
                      (refine hK.out _ _ ?_ (fun hHeld => ?_))
                      · exact SK.out _ (HBL.out.alloc HBL.out.size _)
                      clear hK K
                      have HC := Lib.hid (Blk.new wc 31 #[.int .i64 p.1.1, .int .u64 p.1.2])
                      have HNE := Lib.hid (show some wc.heap.size ≠ (Value.slice (some ⟨ga, 0, none⟩) 0 0).ownBlock from fun e => absurd ((HA.out.lt _ e.symm).2) (by omega))
                      replace HA := Lib.hid (HA.out.alloc (.cells #[.int .i64 p.1.1, .int .u64 p.1.2] 31))
                      replace HBL := Lib.hid (HBL.out.alloc HBL.out.size (.cells #[.int .i64 p.1.1, .int .u64 p.1.2] 31))
                      generalize hwn : wc.alloc (.cells #[.int .i64 p.1.1, .int .u64 p.1.2] 31) = wn at *
                      clear hwn
                      generalize hgc : wc.heap.size = gc at *
                      clear hgc
                      obtain ⟨wc, rfl⟩ : ∃ x : World, x = wn := ⟨_, rfl⟩
                      refine stepH 4 rfl (by kernel_rfl) (by rfl) (fun K hK => ?_)
                      (refine wp_append_any _ (.tmp 75) (.tmp 78) _ rfl w0.heap.size 31 i0 _ 2 16 Try.underlying37 hi0 hz0' hz1 hz2 rfl (by omega) _ 0 _ rfl HA.out _ (some ⟨g', 0, none⟩) k _ ((ts.take k).flatMap pc) rfl (HRD1.out.below HBL.out) pcs_one (by unfold maxLen; omega) (by omega) HBL.out.size ?_; intro v2 w3 hown2 hg2 hat2)
                      (refine hK.out _ _ ?_ (fun hHeld => ?_))
                      · exact SK.out _ (HBL.out.grown hg2 HBL.out.size (fun g hg => (HA.out.lt g hg).1))
                      clear hK K
                      have HC2 := Lib.hid (HC.out.grown hg2 HNE.out)
                      replace HNE := Lib.hid (show some gc ≠ v2.ownBlock from by
                        rcases hat2 with e | e
                        · rw [e]; exact HNE.out
                        · rw [e]; exact fun e => absurd (Option.some.inj e) (by have := HC.out.lt; omega))
                      replace HC := HC2
                      clear HC2
                      replace HBL := Lib.hid (HBL.out.grown hg2 HBL.out.size (fun g hg => (HA.out.lt g hg).1))
                      replace HA := Lib.hid hown2
                      clear hown2 hg2 hat2
                      obtain ⟨va, rfl⟩ : ∃ x : Value, x = v2 := ⟨_, rfl⟩
                      obtain ⟨wc, rfl⟩ : ∃ x : World, x = w3 := ⟨_, rfl⟩
                      refine stepH 7 rfl (by kernel_rfl) (by rfl) (fun K hK => ?_)
                      (refine wp_append_any _ (.tmp 79) (.tmp 81) _ rfl w0.heap.size 31 i0 _ 2 16 Try.underlying37 hi0 hz0' hz1 hz2 rfl (by omega) _ (0 + k) _ rfl HA.out _ (some ⟨gc, 0, none⟩) 1 _ (pc p) rfl (reads_pl HC.out) (pc_one p) (by unfold maxLen; omega) (by omega) HBL.out.size ?_; intro v2 w3 hown2 hg2 hat2)
                      (refine hK.out _ _ ?_ (fun hHeld => ?_))
                      · exact SK.out _ (HBL.out.grown hg2 HBL.out.size (fun g hg => (HA.out.lt g hg).1))
                      clear hK K
                      have HC2 := Lib.hid (HC.out.grown hg2 HNE.out)
                      replace HNE := Lib.hid (show some gc ≠ v2.ownBlock from by
                        rcases hat2 with e | e
                        · rw [e]; exact HNE.out
                        · rw [e]; exact fun e => absurd (Option.some.inj e) (by have := HC.out.lt; omega))
                      replace HC := HC2
                      clear HC2
                      replace HBL := Lib.hid (HBL.out.grown hg2 HBL.out.size (fun g hg => (HA.out.lt g hg).1))
                      replace HA := Lib.hid hown2
                      clear hown2 hg2 hat2
                      obtain ⟨va, rfl⟩ : ∃ x : Value, x = v2 := ⟨_, rfl⟩
                      obtain ⟨wc, rfl⟩ : ∃ x : World, x = w3 := ⟨_, rfl⟩
                      refine stepH 11 rfl (by kernel_rfl) (by rfl) (fun K hK => ?_)
                      (refine wp_append_any _ (.tmp 82) (.tmp 85) _ rfl w0.heap.size 31 i0 _ 2 16 Try.underlying37 hi0 hz0' hz1 hz2 rfl (by omega) _ (0 + k + 1) _ rfl HA.out _ A2 (t - k) _ ((ts.drop k).flatMap pc) rfl (HRD2.out.below HBL.out) pcs_one (by unfold maxLen; omega) (by omega) HBL.out.size ?_; intro v2 w3 hown2 hg2 hat2)
                      (refine hK.out _ _ ?_ (fun hHeld => ?_))
                      · exact SK.out _ (HBL.out.grown hg2 HBL.out.size (fun g hg => (HA.out.lt g hg).1))
                      clear hK K
                      have HC2 := Lib.hid (HC.out.grown hg2 HNE.out)
                      replace HNE := Lib.hid (show some gc ≠ v2.ownBlock from by
                        rcases hat2 with e | e
                        · rw [e]; exact HNE.out
                        · rw [e]; exact fun e => absurd (Option.some.inj e) (by have := HC.out.lt; omega))
                      replace HC := HC2
                      clear HC2
                      replace HBL := Lib.hid (HBL.out.grown hg2 HBL.out.size (fun g hg => (HA.out.lt g hg).1))
                      replace HA := Lib.hid hown2
                      clear hown2 hg2 hat2
                      obtain ⟨va, rfl⟩ : ∃ x : Value, x = v2 := ⟨_, rfl⟩
                      obtain ⟨wc, rfl⟩ : ∃ x : World, x = w3 := ⟨_, rfl⟩
                      ((refine takeY 12 (v := ?_) rfl (by kernel_rfl) (by kernel_rfl) (by kernel_rfl) (fun _ _ _ h => h) (by rfl) (by assumption) ?_ ?_; rotate_left; · (intro w hSw; (try dsimp only at hSw); go_simp; (first | done | with_reducible rfl))))
                      (try simp only [Act.put, List.setIfInBounds_toArray, List.set_cons_zero, List.set_cons_succ])
                      refine wpAnyH_done (by kernel_rfl) ?_ _
                      clear hHeld hs1 hs2 HC HNE
                      go_wp2
                      refine ⟨⟨i + 1, ts.take k ++ p :: ts.drop k, by go_num, by omega, ?_, HPL.out.ins HX.out HPP.out, HR2.out.below HBL.out, HB2.out.trans (HBL.out.mono HB2.out.size)⟩, by simp [cntI]; omega⟩
                      have hA9 := HA.out
                      rw [List.nil_append] at hA9
                      show World.ownsRow _ _ _ _ _ _ _
                      rw [show (ts.take k ++ p :: ts.drop k).length = 0 + k + 1 + (t - k) from by rw [List.length_append, List.length_cons, List.length_take, List.length_drop]; have := HT.out; omega, List.flatMap_append, List.flatMap_cons, ← List.append_assoc]
                      exact ownsRow_mono hA9 HB2.out.size
                  · go_simp
                    (refine hK.out _ _ ?_ (fun hHeld => ?_))
                    · exact SK.out _ (HBL.out.alloc HBL.out.size _)
                    clear hK K
                    have HC := Lib.hid (Blk.new wc 31 #[.int .i64 p.1.1, .int .u64 p.1.2])
                    replace HBL := Lib.hid (HBL.out.alloc HBL.out.size (.cells #[.int .i64 p.1.1, .int .u64 p.1.2] 31))
                    generalize hwn : wc.alloc (.cells #[.int .i64 p.1.1, .int .u64 p.1.2] 31) = wn at *
                    clear hwn
                    generalize hgc : wc.heap.size = gc at *
                    clear hgc
                    obtain ⟨wc, rfl⟩ : ∃ x : World, x = wn := ⟨_, rfl⟩
                    refine stepH 0 rfl (by kernel_rfl) (by rfl) (fun K hK => ?_)
                    go_simp
                    (refine hK.out _ _ ?_ (fun hHeld => ?_))
                    · exact SK.out _ (HBL.out.alloc HBL.out.size _)
                    clear hK K
                    have HA := Lib.hid (show (wc.alloc (.cells #[] 31)).ownsRow w0.heap.size 31 2 (.slice (some ⟨wc.heap.size, 0, none⟩) 0 0) 0 [] from World.ownsRow_lit wc #[] 0 HBL.out.size (by unfold maxLen; omega) rfl)
                    have HNE := Lib.hid (show some gc ≠ (Value.slice (some ⟨wc.heap.size, 0, none⟩) 0 0).ownBlock from fun e => absurd (Option.some.inj e) (by have := HC.out.lt; show ¬ gc = wc.heap.size; omega))
                    replace HC := Lib.hid (HC.out.alloc (.cells #[] 31))
                    replace HBL := Lib.hid (HBL.out.alloc HBL.out.size (.cells #[] 31))
                    generalize hwn : wc.alloc (.cells #[] 31) = wn at *
                    clear hwn
                    generalize hga : wc.heap.size = ga at *
                    clear hga
                    obtain ⟨wc, rfl⟩ : ∃ x : World, x = wn := ⟨_, rfl⟩
                    refine stepH 4 rfl (by kernel_rfl) (by rfl) (fun K hK => ?_)
                    (refine wp_append_any _ (.tmp 75) (.tmp 78) _ rfl w0.heap.size 31 i0 _ 2 16 Try.underlying37 hi0 hz0' hz1 hz2 rfl (by omega) _ 0 _ rfl HA.out _ (some ⟨g', 0, none⟩) k _ ((ts.take k).flatMap pc) rfl (HRD1.out.below HBL.out) pcs_one (by unfold maxLen; omega) (by omega) HBL.out.size ?_; intro v2 w3 hown2 hg2 hat2)
                    (refine hK.out _ _ ?_ (fun hHeld => ?_))
                    · exact SK.out _ (HBL.out.grown hg2 HBL.out.size (fun g hg => (HA.out.lt g hg).1))
                    clear hK K
                    have HC2 := Lib.hid (HC.out.grown hg2 HNE.out)
                    replace HNE := Lib.hid (show some gc ≠ v2.ownBlock from by
                      rcases hat2 with e | e
                      · rw [e]; exact HNE.out
                      · rw [e]; exact fun e => absurd (Option.some.inj e) (by have := HC.out.lt; omega))
                    replace HC := HC2
                    clear HC2
                    replace HBL := Lib.hid (HBL.out.grown hg2 HBL.out.size (fun g hg => (HA.out.lt g hg).1))
                    replace HA := Lib.hid hown2
                    clear hown2 hg2 hat2
                    obtain ⟨va, rfl⟩ : ∃ x : Value, x = v2 := ⟨_, rfl⟩
                    obtain ⟨wc, rfl⟩ : ∃ x : World, x = w3 := ⟨_, rfl⟩
                    refine stepH 7 rfl (by kernel_rfl) (by rfl) (fun K hK => ?_)
                    (refine wp_append_any _ (.tmp 79) (.tmp 81) _ rfl w0.heap.size 31 i0 _ 2 16 Try.underlying37 hi0 hz0' hz1 hz2 rfl (by omega) _ (0 + k) _ rfl HA.out _ (some ⟨gc, 0, none⟩) 1 _ (pc p) rfl (reads_pl HC.out) (pc_one p) (by unfold maxLen; omega) (by omega) HBL.out.size ?_; intro v2 w3 hown2 hg2 hat2)
                    (refine hK.out _ _ ?_ (fun hHeld => ?_))
                    · exact SK.out _ (HBL.out.grown hg2 HBL.out.size (fun g hg => (HA.out.lt g hg).1))
                    clear hK K
                    have HC2 := Lib.hid (HC.out.grown hg2 HNE.out)
                    replace HNE := Lib.hid (show some gc ≠ v2.ownBlock from by
                      rcases hat2 with e | e
                      · rw [e]; exact HNE.out
                      · rw [e]; exact fun e => absurd (Option.some.inj e) (by have := HC.out.lt; omega))
                    replace HC := HC2
                    clear HC2
                    replace HBL := Lib.hid (HBL.out.grown hg2 HBL.out.size (fun g hg => (HA.out.lt g hg).1))
                    replace HA := Lib.hid hown2
                    clear hown2 hg2 hat2
                    obtain ⟨va, rfl⟩ : ∃ x : Value, x = v2 := ⟨_, rfl⟩
                    obtain ⟨wc, rfl⟩ : ∃ x : World, x = w3 := ⟨_, rfl⟩
                    refine stepH 11 rfl (by kernel_rfl) (by rfl) (fun K hK => ?_)
                    (refine wp_append_any _ (.tmp 82) (.tmp 85) _ rfl w0.heap.size 31 i0 _ 2 16 Try.underlying37 hi0 hz0' hz1 hz2 rfl (by omega) _ (0 + k + 1) _ rfl HA.out _ A2 (t - k) _ ((ts.drop k).flatMap pc) rfl (HRD2.out.below HBL.out) pcs_one (by unfold maxLen; omega) (by omega) HBL.out.size ?_; intro v2 w3 hown2 hg2 hat2)
                    (refine hK.out _ _ ?_ (fun hHeld => ?_))
                    · exact SK.out _ (HBL.out.grown hg2 HBL.out.size (fun g hg => (HA.out.lt g hg).1))
                    clear hK K
                    have HC2 := Lib.hid (HC.out.grown hg2 HNE.out)
                    replace HNE := Lib.hid (show some gc ≠ v2.ownBlock from by
                      rcases hat2 with e | e
                      · rw [e]; exact HNE.out
                      · rw [e]; exact fun e => absurd (Option.some.inj e) (by have := HC.out.lt; omega))
                    replace HC := HC2
                    clear HC2
                    replace HBL := Lib.hid (HBL.out.grown hg2 HBL.out.size (fun g hg => (HA.out.lt g hg).1))
                    replace HA := Lib.hid hown2
                    clear hown2 hg2 hat2
                    obtain ⟨va, rfl⟩ : ∃ x : Value, x = v2 := ⟨_, rfl⟩
                    obtain ⟨wc, rfl⟩ : ∃ x : World, x = w3 := ⟨_, rfl⟩
                    ((refine takeY 12 (v := ?_) rfl (by kernel_rfl) (by kernel_rfl) (by kernel_rfl) (fun _ _ _ h => h) (by rfl) (by assumption) ?_ ?_; rotate_left; · (intro w hSw; (try dsimp only at hSw); go_simp; (first | done | with_reducible rfl))))
                    (try simp only [Act.put, List.setIfInBounds_toArray, List.set_cons_zero, List.set_cons_succ])
                    refine wpAnyH_done (by kernel_rfl) ?_ _
                    clear hHeld hs1 hs2 HC HNE
                    go_wp2
                    refine ⟨⟨i + 1, ts.take k ++ p :: ts.drop k, by go_num, by omega, ?_, HPL.out.ins HX.out HPP.out, HR2.out.below HBL.out, HB2.out.trans (HBL.out.mono HB2.out.size)⟩, by simp [cntI]; omega⟩
                    have hA9 := HA.out
                    rw [List.nil_append] at hA9
                    show World.ownsRow _ _ _ _ _ _ _
                    rw [show (ts.take k ++ p :: ts.drop k).length = 0 + k + 1 + (t - k) from by rw [List.length_append, List.length_cons, List.length_take, List.length_drop]; have := HT.out; omega, List.flatMap_append, List.flatMap_cons, ← List.append_assoc]
                    exact ownsRow_mono hA9 HB2.out.size
              · have r2 : (o.1.1 == p.1.1) = false := by simp; exact h2
                have HPP := Lib.hid (HPH.out.pos HPL.out.1 HO.out HK0.out (plt_false.2 (by omega)) HNW.out)
                clear h1 h2
                go_wp2_with fail
                go_quiet (fail)
                replace HBX := Lib.hid (HBX.out.drewN nq)
                replace HR := Lib.hid (HR.out.drewN nq)
                replace HB := Lib.hid (below_drewN HB.out nq)
                replace HRD := Lib.hid (show Reads (w5.drewN nq) (w5.drewN nq).heap.size 2 (some ⟨g', 0, none⟩) t (ts.flatMap pc) from HRD.out)
                clear HW5 e0 e1
                generalize w5.drewN nq = w6 at *
                obtain ⟨A2, hA2⟩ : ∃ A2, (if cc = k then ((some ⟨g', 0, none⟩) : Option Addr) else Option.map (fun a : Addr => a.add (k * 2)) (some ⟨g', 0, none⟩)) = A2 := ⟨_, rfl⟩
                have hs1 : ∀ w' : World, (Instr.slice 37 (.slice (some ⟨g', 0, none⟩) t cc) none (some (.int .i64 (k : Int))) none).run Try.prog w' = .ok (.slice (some ⟨g', 0, none⟩) k cc) w' := fun w' => run_cut_lo w' Try.underlying37 hi0 (some ⟨g', 0, none⟩) t cc k (by have := HCC.out; omega)
                have hs2 : ∀ w' : World, (Instr.slice 37 (.slice (some ⟨g', 0, none⟩) t cc) (some (.int .i64 (k : Int))) none none).run Try.prog w' = .ok (.slice A2 (t - k) (cc - k)) w' := fun w' => by rw [← hA2]; exact run_cut_hi w' Try.underlying37 hi0 2 hz1 (some ⟨g', 0, none⟩) t cc k hkt
                have HRD1 := Lib.hid (show Reads w6.drew w6.drew.heap.size 2 (some ⟨g', 0, none⟩) k ((ts.take k).flatMap pc) from by rw [← flat_take pc_len]; exact HRD.out.takeS hkt)
                have HRD2 := Lib.hid (show Reads w6.drew w6.drew.heap.size 2 A2 (t - k) ((ts.drop k).flatMap pc) from by rw [← hA2, ← flat_drop pc_len]; exact Reads.cut (show Reads w6 w6.heap.size 2 (some ⟨g', 0, none⟩) t (ts.flatMap pc) from HRD.out) hkt HCC.out)
                have SK := Lib.hid (show ∀ w', Below w6.drew.heap.size w6.drew w' → w'.cell? ⟨gp, 0, none⟩ = some (.int .i64 p.1.1) ∧ w'.cell? ⟨gp, 1, none⟩ = some (.int .u64 p.1.2) from fun w' hb => have hx9 : Blk w6.drew gp 31 #[.int .i64 p.1.1, .int .u64 p.1.2] := HBX.out; ⟨((hx9.below hb hx9.lt).cell 0).trans rfl, ((hx9.below hb hx9.lt).cell 1).trans rfl⟩)
                have HB2 := Lib.hid (show Below w.heap.size w w6.drew from HB.out.drew)
                have HR2 := Lib.hid (show RU w6.drew c B _ xs from HR.out.drewN 1)
                clear hA2 HRD HR HB HRW
                go_upto_region 10 with fail
                refine wp_region_held_drew (S := (fun w' => w'.cell? ⟨gp, 0, none⟩ = some (.int .i64 p.1.1) ∧ w'.cell? ⟨gp, 1, none⟩ = some (.int .u64 p.1.2))) (by kernel_rfl) ?_ (fun hHeld => ?_)
                · exact SK.out _ (Below.refl _ _)
                generalize w6.drew = w0 at *
                obtain ⟨wc, hwc, HBL, hHeld⟩ : ∃ wc, w0 = wc ∧ Hid (Below w0.heap.size w0 wc) ∧ (wc.cell? ⟨gp, 0, none⟩ = some (.int .i64 p.1.1) ∧ wc.cell? ⟨gp, 1, none⟩ = some (.int .u64 p.1.2)) := ⟨w0, rfl, Lib.hid (Below.refl _ _), hHeld⟩
                rw [hwc]
                clear hwc
                ((refine takeY 1 (v := ?_) rfl (by kernel_rfl) (by kernel_rfl) (by kernel_rfl) (fun _ _ _ h => h) (by rfl) (by assumption) ?_ ?_; rotate_left; · (intro w hSw; (try dsimp only at hSw); go_simp; (first | done | with_reducible rfl))))
                (try simp only [Act.put, List.setIfInBounds_toArray, List.set_cons_zero, List.set_cons_succ])
                ((refine takeY 2 (v := ?_) rfl (by kernel_rfl) (by kernel_rfl) (by kernel_rfl) (fun _ _ _ h => h) (by rfl) (by assumption) ?_ ?_; rotate_left; · (intro w hSw; (try dsimp only at hSw); go_simp; (first | done | with_reducible rfl))))
                (try simp only [Act.put, List.setIfInBounds_toArray, List.set_cons_zero, List.set_cons_succ])
                ((refine takeY 3 (v := ?_) rfl (by kernel_rfl) (by kernel_rfl) (by kernel_rfl) (fun _ _ _ h => h) (by rfl) (by assumption) ?_ ?_; rotate_left; · (intro w hSw; (try dsimp only at hSw); go_simp; (first | done | with_reducible rfl))))
                (try simp only [Act.put, List.setIfInBounds_toArray, List.set_cons_zero, List.set_cons_succ])
                ((refine takeY 5 (v := ?_) rfl (by kernel_rfl) (by kernel_rfl) (by kernel_rfl) (fun _ _ _ h => h) (by rfl) (by assumption) ?_ ?_; rotate_left; · (intro w hSw; (try dsimp only at hSw); go_simp; (first | done | with_reducible rfl))))
                (try simp only [Act.put, List.setIfInBounds_toArray, List.set_cons_zero, List.set_cons_succ])
                ((refine takeY 8 (v := ?_) rfl (by kernel_rfl) (by kernel_rfl) (by kernel_rfl) (fun _ _ _ h => h) (by rfl) (by assumption) ?_ ?_; rotate_left; · (intro w hSw; (try dsimp only at hSw); go_simp; (first | done | with_reducible rfl))))
                (try simp only [Act.put, List.setIfInBounds_toArray, List.set_cons_zero, List.set_cons_succ])
                ((refine takeY 9 (v := ?_) rfl (by kernel_rfl) (by kernel_rfl) (by kernel_rfl) (fun _ _ _ h => h) (by rfl) (by assumption) ?_ ?_; rotate_left; · (intro w hSw; (try dsimp only at hSw); go_simp; (first | done | with_reducible rfl))))
                (try simp only [Act.put, List.setIfInBounds_toArray, List.set_cons_zero, List.set_cons_succ])
                ((refine takeY 10 (v := ?_) rfl (by kernel_rfl) (by kernel_rfl) (by kernel_rfl) (fun _ _ _ h => h) (by rfl) (by assumption) ?_ ?_; rotate_left; · (intro w hSw; (try dsimp only at hSw); go_simp; (first | done | with_reducible rfl))))
                (try simp only [Act.put, List.setIfInBounds_toArray, List.set_cons_zero, List.set_cons_succ])
                refine wpAnyH_ready (rs := [0, 6]) (by kernel_rfl) (by simp) ?_
                refine consH 0 rfl (by rfl) (fun K hK => ?_) (consH 6 rfl (by rfl) (fun K hK => ?_) (AllReadyH.nil))
                · go_simp
                  (refine hK.out _ _ ?_ (fun hHeld => ?_))
                  · exact SK.out _ (HBL.out.alloc HBL.out.size _)
                  clear hK K
                  have HA := Lib.hid (show (wc.alloc (.cells #[] 31)).ownsRow w0.heap.size 31 2 (.slice (some ⟨wc.heap.size, 0, none⟩) 0 0) 0 [] from World.ownsRow_lit wc #[] 0 HBL.out.size (by unfold maxLen; omega) rfl)
                  replace HBL := Lib.hid (HBL.out.alloc HBL.out.size (.cells #[] 31))
                  generalize hwn : wc.alloc (.cells #[] 31) = wn at *
                  clear hwn
                  generalize hga : wc.heap.size = ga at *
                  clear hga
                  obtain ⟨wc, rfl⟩ : ∃ x : World, x = wn := ⟨_, rfl⟩
                  refine wpAnyH_ready (rs := [4, 6]) (by kernel_rfl) (by simp) ?_
                  refine consH 4 rfl (by rfl) (fun K hK => ?_) (consH 6 rfl (by rfl) (fun K hK => ?_) (AllReadyH.nil))
                  · (refine wp_append_any _ (.tmp 75) (.tmp 78) _ rfl w0.heap.size 31 i0 _ 2 16 Try.underlying37 hi0 hz0' hz1 hz2 rfl (by omega) _ 0 _ rfl HA.out _ (some ⟨g', 0, none⟩) k _ ((ts.take k).flatMap pc) rfl (HRD1.out.below HBL.out) pcs_one (by unfold maxLen; omega) (by omega) HBL.out.size ?_; intro v2 w3 hown2 hg2 hat2)
                    (refine hK.out _ _ ?_ (fun hHeld => ?_))
                    · exact SK.out _ (HBL.out.grown hg2 HBL.out.size (fun g hg => (HA.out.lt g hg).1))
                    clear hK K
                    replace HBL := Lib.hid (HBL.out.grown hg2 HBL.out.size (fun g hg => (HA.out.lt g hg).1))
                    replace HA := Lib.hid hown2
                    clear hown2 hg2 hat2
                    obtain ⟨va, rfl⟩ : ∃ x : Value, x = v2 := ⟨_, rfl⟩
                    obtain ⟨wc, rfl⟩ : ∃ x : World, x = w3 := ⟨_, rfl⟩
                    refine stepH 6 rfl (by kernel_rfl) (by rfl) (fun K hK => ?_)
                    go_simp
                    (refine hK.out _ _ ?_ (fun hHeld => ?_))
                    · exact SK.out _ (HBL.out.alloc HBL.out.size _)
                    clear hK K
                    have HC := Lib.hid (Blk.new wc 31 #[.int .i64 p.1.1, .int .u64 p.1.2])
                    have HNE := Lib.hid (show some wc.heap.size ≠ va.ownBlock from fun e => by have := (HA.out.lt _ e.symm).2; omega)
                    replace HA := Lib.hid (HA.out.alloc (.cells #[.int .i64 p.1.1, .int .u64 p.1.2] 31))
                    replace HBL := Lib.hid (HBL.out.alloc HBL.out.size (.cells #[.int .i64 p.1.1, .int .u64 p.1.2] 31))
                    generalize hwn : wc.alloc (.cells #[.int .i64 p.1.1, .int .u64 p.1.2] 31) = wn at *
                    clear hwn
                    generalize hgc : wc.heap.size = gc at *
                    clear hgc
                    obtain ⟨wc, rfl⟩ : ∃ x : World, x = wn := ⟨_, rfl⟩
                    refine stepH 7 rfl (by kernel_rfl) (by rfl) (fun K hK => ?_)
                    (refine wp_append_any _ (.tmp 79) (.tmp 81) _ rfl w0.heap.size 31 i0 _ 2 16 Try.underlying37 hi0 hz0' hz1 hz2 rfl (by omega) _ (0 + k) _ rfl HA.out _ (some ⟨gc, 0, none⟩) 1 _ (pc p) rfl (reads_pl HC.out) (pc_one p) (by unfold maxLen; omega) (by omega) HBL.out.size ?_; intro v2 w3 hown2 hg2 hat2)
                    (refine hK.out _ _ ?_ (fun hHeld => ?_))
                    · exact SK.out _ (HBL.out.grown hg2 HBL.out.size (fun g hg => (HA.out.lt g hg).1))
                    clear hK K
                    have HC2 := Lib.hid (HC.out.grown hg2 HNE.out)
                    replace HNE := Lib.hid (show some gc ≠ v2.ownBlock from by
                      rcases hat2 with e | e
                      · rw [e]; exact HNE.out
                      · rw [e]; exact fun e => absurd (Option.some.inj e) (by have := HC.out.lt; omega))
                    replace HC := HC2
                    clear HC2
                    replace HBL := Lib.hid (HBL.out.grown hg2 HBL.out.size (fun g hg => (HA.out.lt g hg).1))
                    replace HA := Lib.hid hown2
                    clear hown2 hg2 hat2
                    obtain ⟨va, rfl⟩ : ∃ x : Value, x = v2 := ⟨_, rfl⟩
                    obtain ⟨wc, rfl⟩ : ∃ x : World, x = w3 := ⟨_, rfl⟩
                    refine stepH 11 rfl (by kernel_rfl) (by rfl) (fun K hK => ?_)
                    (refine wp_append_any _ (.tmp 82) (.tmp 85) _ rfl w0.heap.size 31 i0 _ 2 16 Try.underlying37 hi0 hz0' hz1 hz2 rfl (by omega) _ (0 + k + 1) _ rfl HA.out _ A2 (t - k) _ ((ts.drop k).flatMap pc) rfl (HRD2.out.below HBL.out) pcs_one (by unfold maxLen; omega) (by omega) HBL.out.size ?_; intro v2 w3 hown2 hg2 hat2)
                    (refine hK.out _ _ ?_ (fun hHeld => ?_))
                    · exact SK.out _ (HBL.out.grown hg2 HBL.out.size (fun g hg => (HA.out.lt g hg).1))
                    clear hK K
                    have HC2 := Lib.hid (HC.out.grown hg2 HNE.out)
                    replace HNE := Lib.hid (show some gc ≠ v2.ownBlock from by
                      rcases hat2 with e | e
                      · rw [e]; exact HNE.out
                      · rw [e]; exact fun e => absurd (Option.some.inj e) (by have := HC.out.lt; omega))
                    replace HC := HC2
                    clear HC2
                    replace HBL := Lib.hid (HBL.out.grown hg2 HBL.out.size (fun g hg => (HA.out.lt g hg).1))
                    replace HA := Lib.hid hown2
                    clear hown2 hg2 hat2
                    obtain ⟨va, rfl⟩ : ∃ x : Value, x = v2 := ⟨_, rfl⟩
                    obtain ⟨wc, rfl⟩ : ∃ x : World, x = w3 := ⟨_, rfl⟩
                    ((refine takeY 12 (v := ?_) rfl (by kernel_rfl) (by kernel_rfl) (by kernel_rfl) (fun _ _ _ h => h) (by rfl) (by assumption) ?_ ?_; rotate_left; · (intro w hSw; (try dsimp only at hSw); go_simp; (first | done | with_reducible rfl))))
                    (try simp only [Act.put, List.setIfInBounds_toArray, List.set_cons_zero, List.set_cons_succ])
                    refine wpAnyH_done (by kernel_rfl) ?_ _
                    clear hHeld hs1 hs2 HC HNE
                    go_wp2
                    refine ⟨⟨i + 1, ts.take k ++ p :: ts.drop k, by go_num, by omega, ?_, HPL.out.ins HX.out HPP.out, HR2.out.below HBL.out, HB2.out.trans (HBL.out.mono HB2.out.size)⟩, by simp [cntI]; omega⟩
                    have hA9 := HA.out
                    rw [List.nil_append] at hA9
                    show World.ownsRow _ _ _ _ _ _ _
                    rw [show (ts.take k ++ p :: ts.drop k).length = 0 + k + 1 + (t - k) from by rw [List.length_append, List.length_cons, List.length_take, List.length_drop]; have := HT.out; omega, List.flatMap_append, List.flatMap_cons, ← List.append_assoc]
                    exact ownsRow_mono hA9 HB2.out.size
                  · go_simp
                    (refine hK.out _ _ ?_ (fun hHeld => ?_))
                    · exact SK.out _ (HBL.out.alloc HBL.out.size _)
                    clear hK K
                    have HC := Lib.hid (Blk.new wc 31 #[.int .i64 p.1.1, .int .u64 p.1.2])
                    have HNE := Lib.hid (show some wc.heap.size ≠ (Value.slice (some ⟨ga, 0, none⟩) 0 0).ownBlock from fun e => absurd ((HA.out.lt _ e.symm).2) (by omega))
                    replace HA := Lib.hid (HA.out.alloc (.cells #[.int .i64 p.1.1, .int .u64 p.1.2] 31))
                    replace HBL := Lib.hid (HBL.out.alloc HBL.out.size (.cells #[.int .i64 p.1.1, .int .u64 p.1.2] 31))
                    generalize hwn : wc.alloc (.cells #[.int .i64 p.1.1, .int .u64 p.1.2] 31) = wn at *
                    clear hwn
                    generalize hgc : wc.heap.size = gc at *
                    clear hgc
                    obtain ⟨wc, rfl⟩ : ∃ x : World, x = wn := ⟨_, rfl⟩
                    refine stepH 4 rfl (by kernel_rfl) (by rfl) (fun K hK => ?_)
                    (refine wp_append_any _ (.tmp 75) (.tmp 78) _ rfl w0.heap.size 31 i0 _ 2 16 Try.underlying37 hi0 hz0' hz1 hz2 rfl (by omega) _ 0 _ rfl HA.out _ (some ⟨g', 0, none⟩) k _ ((ts.take k).flatMap pc) rfl (HRD1.out.below HBL.out) pcs_one (by unfold maxLen; omega) (by omega) HBL.out.size ?_; intro v2 w3 hown2 hg2 hat2)
                    (refine hK.out _ _ ?_ (fun hHeld => ?_))
                    · exact SK.out _ (HBL.out.grown hg2 HBL.out.size (fun g hg => (HA.out.lt g hg).1))
                    clear hK K
                    have HC2 := Lib.hid (HC.out.grown hg2 HNE.out)
                    replace HNE := Lib.hid (show some gc ≠ v2.ownBlock from by
                      rcases hat2 with e | e
                      · rw [e]; exact HNE.out
                      · rw [e]; exact fun e => absurd (Option.some.inj e) (by have := HC.out.lt; omega))
                    replace HC := HC2
                    clear HC2
                    replace HBL := Lib.hid (HBL.out.grown hg2 HBL.out.size (fun g hg => (HA.out.lt g hg).1))
                    replace HA := Lib.hid hown2
                    clear hown2 hg2 hat2
                    obtain ⟨va, rfl⟩ : ∃ x : Value, x = v2 := ⟨_, rfl⟩
                    obtain ⟨wc, rfl⟩ : ∃ x : World, x = w3 := ⟨_, rfl⟩
                    refine stepH 7 rfl (by kernel_rfl) (by rfl) (fun K hK => ?_)
                    (refine wp_append_any _ (.tmp 79) (.tmp 81) _ rfl w0.heap.size 31 i0 _ 2 16 Try.underlying37 hi0 hz0' hz1 hz2 rfl (by omega) _ (0 + k) _ rfl HA.out _ (some ⟨gc, 0, none⟩) 1 _ (pc p) rfl (reads_pl HC.out) (pc_one p) (by unfold maxLen; omega) (by omega) HBL.out.size ?_; intro v2 w3 hown2 hg2 hat2)
                    (refine hK.out _ _ ?_ (fun hHeld => ?_))
                    · exact SK.out _ (HBL.out.grown hg2 HBL.out.size (fun g hg => (HA.out.lt g hg).1))
                    clear hK K
                    have HC2 := Lib.hid (HC.out.grown hg2 HNE.out)
                    replace HNE := Lib.hid (show some gc ≠ v2.ownBlock from by
                      rcases hat2 with e | e
                      · rw [e]; exact HNE.out
                      · rw [e]; exact fun e => absurd (Option.some.inj e) (by have := HC.out.lt; omega))
                    replace HC := HC2
                    clear HC2
                    replace HBL := Lib.hid (HBL.out.grown hg2 HBL.out.size (fun g hg => (HA.out.lt g hg).1))
                    replace HA := Lib.hid hown2
                    clear hown2 hg2 hat2
                    obtain ⟨va, rfl⟩ : ∃ x : Value, x = v2 := ⟨_, rfl⟩
                    obtain ⟨wc, rfl⟩ : ∃ x : World, x = w3 := ⟨_, rfl⟩
                    refine stepH 11 rfl (by kernel_rfl) (by rfl) (fun K hK => ?_)
                    (refine wp_append_any _ (.tmp 82) (.tmp 85) _ rfl w0.heap.size 31 i0 _ 2 16 Try.underlying37 hi0 hz0' hz1 hz2 rfl (by omega) _ (0 + k + 1) _ rfl HA.out _ A2 (t - k) _ ((ts.drop k).flatMap pc) rfl (HRD2.out.below HBL.out) pcs_one (by unfold maxLen; omega) (by omega) HBL.out.size ?_; intro v2 w3 hown2 hg2 hat2)
                    (refine hK.out _ _ ?_ (fun hHeld => ?_))
                    · exact SK.out _ (HBL.out.grown hg2 HBL.out.size (fun g hg => (HA.out.lt g hg).1))
                    clear hK K
                    have HC2 := Lib.hid (HC.out.grown hg2 HNE.out)
                    replace HNE := Lib.hid (show some gc ≠ v2.ownBlock from by
                      rcases hat2 with e | e
                      · rw [e]; exact HNE.out
                      · rw [e]; exact fun e => absurd (Option.some.inj e) (by have := HC.out.lt; omega))
                    replace HC := HC2
                    clear HC2
                    replace HBL := Lib.hid (HBL.out.grown hg2 HBL.out.size (fun g hg => (HA.out.lt g hg).1))
                    replace HA := Lib.hid hown2
                    clear hown2 hg2 hat2
                    obtain ⟨va, rfl⟩ : ∃ x : Value, x = v2 := ⟨_, rfl⟩
                    obtain ⟨wc, rfl⟩ : ∃ x : World, x = w3 := ⟨_, rfl⟩
                    ((refine takeY 12 (v := ?_) rfl (by kernel_rfl) (by kernel_rfl) (by kernel_rfl) (fun _ _ _ h => h) (by rfl) (by assumption) ?_ ?_; rotate_left; · (intro w hSw; (try dsimp only at hSw); go_simp; (first | done | with_reducible rfl))))
                    (try simp only [Act.put, List.setIfInBounds_toArray, List.set_cons_zero, List.set_cons_succ])
                    refine wpAnyH_done (by kernel_rfl) ?_ _
                    clear hHeld hs1 hs2 HC HNE
                    go_wp2
                    refine ⟨⟨i + 1, ts.take k ++ p :: ts.drop k, by go_num, by omega, ?_, HPL.out.ins HX.out HPP.out, HR2.out.below HBL.out, HB2.out.trans (HBL.out.mono HB2.out.size)⟩, by simp [cntI]; omega⟩
                    have hA9 := HA.out
                    rw [List.nil_append] at hA9
                    show World.ownsRow _ _ _ _ _ _ _
                    rw [show (ts.take k ++ p :: ts.drop k).length = 0 + k + 1 + (t - k) from by rw [List.length_append, List.length_cons, List.length_take, List.length_drop]; have := HT.out; omega, List.flatMap_append, List.flatMap_cons, ← List.append_assoc]
                    exact ownsRow_mono hA9 HB2.out.size
                · go_simp
                  (refine hK.out _ _ ?_ (fun hHeld => ?_))
                  · exact SK.out _ (HBL.out.alloc HBL.out.size _)
                  clear hK K
                  have HC := Lib.hid (Blk.new wc 31 #[.int .i64 p.1.1, .int .u64 p.1.2])
                  replace HBL := Lib.hid (HBL.out.alloc HBL.out.size (.cells #[.int .i64 p.1.1, .int .u64 p.1.2] 31))
                  generalize hwn : wc.alloc (.cells #[.int .i64 p.1.1, .int .u64 p.1.2] 31) = wn at *
                  clear hwn
                  generalize hgc : wc.heap.size = gc at *
                  clear hgc
                  obtain ⟨wc, rfl⟩ : ∃ x : World, x = wn := ⟨_, rfl⟩
                  refine stepH 0 rfl (by kernel_rfl) (by rfl) (fun K hK => ?_)
                  go_simp
                  (refine hK.out _ _ ?_ (fun hHeld => ?_))
                  · exact SK.out _ (HBL.out.alloc HBL.out.size _)
                  clear hK K
                  have HA := Lib.hid (show (wc.alloc (.cells #[] 31)).ownsRow w0.heap.size 31 2 (.slice (some ⟨wc.heap.size, 0, none⟩) 0 0) 0 [] from World.ownsRow_lit wc #[] 0 HBL.out.size (by unfold maxLen; omega) rfl)
                  have HNE := Lib.hid (show some gc ≠ (Value.slice (some ⟨wc.heap.size, 0, none⟩) 0 0).ownBlock from fun e => absurd (Option.some.inj e) (by have := HC.out.lt; show ¬ gc = wc.heap.size; omega))
                  replace HC := Lib.hid (HC.out.alloc (.cells #[] 31))
                  replace HBL := Lib.hid (HBL.out.alloc HBL.out.size (.cells #[] 31))
                  generalize hwn : wc.alloc (.cells #[] 31) = wn at *
                  clear hwn
                  generalize hga : wc.heap.size = ga at *
                  clear hga
                  obtain ⟨wc, rfl⟩ : ∃ x : World, x = wn := ⟨_, rfl⟩
                  refine stepH 4 rfl (by kernel_rfl) (by rfl) (fun K hK => ?_)
                  (refine wp_append_any _ (.tmp 75) (.tmp 78) _ rfl w0.heap.size 31 i0 _ 2 16 Try.underlying37 hi0 hz0' hz1 hz2 rfl (by omega) _ 0 _ rfl HA.out _ (some ⟨g', 0, none⟩) k _ ((ts.take k).flatMap pc) rfl (HRD1.out.below HBL.out) pcs_one (by unfold maxLen; omega) (by omega) HBL.out.size ?_; intro v2 w3 hown2 hg2 hat2)
                  (refine hK.out _ _ ?_ (fun hHeld => ?_))
                  · exact SK.out _ (HBL.out.grown hg2 HBL.out.size (fun g hg => (HA.out.lt g hg).1))
                  clear hK K
                  have HC2 := Lib.hid (HC.out.grown hg2 HNE.out)
                  replace HNE := Lib.hid (show some gc ≠ v2.ownBlock from by
                    rcases hat2 with e | e
                    · rw [e]; exact HNE.out
                    · rw [e]; exact fun e => absurd (Option.some.inj e) (by have := HC.out.lt; omega))
                  replace HC := HC2
                  clear HC2
                  replace HBL := Lib.hid (HBL.out.grown hg2 HBL.out.size (fun g hg => (HA.out.lt g hg).1))
                  replace HA := Lib.hid hown2
                  clear hown2 hg2 hat2
                  obtain ⟨va, rfl⟩ : ∃ x : Value, x = v2 := ⟨_, rfl⟩
                  obtain ⟨wc, rfl⟩ : ∃ x : World, x = w3 := ⟨_, rfl⟩
                  refine stepH 7 rfl (by kernel_rfl) (by rfl) (fun K hK => ?_)
                  (refine wp_append_any _ (.tmp 79) (.tmp 81) _ rfl w0.heap.size 31 i0 _ 2 16 Try.underlying37 hi0 hz0' hz1 hz2 rfl (by omega) _ (0 + k) _ rfl HA.out _ (some ⟨gc, 0, none⟩) 1 _ (pc p) rfl (reads_pl HC.out) (pc_one p) (by unfold maxLen; omega) (by omega) HBL.out.size ?_; intro v2 w3 hown2 hg2 hat2)
                  (refine hK.out _ _ ?_ (fun hHeld => ?_))
                  · exact SK.out _ (HBL.out.grown hg2 HBL.out.size (fun g hg => (HA.out.lt g hg).1))
                  clear hK K
                  have HC2 := Lib.hid (HC.out.grown hg2 HNE.out)
                  replace HNE := Lib.hid (show some gc ≠ v2.ownBlock from by
                    rcases hat2 with e | e
                    · rw [e]; exact HNE.out
                    · rw [e]; exact fun e => absurd (Option.some.inj e) (by have := HC.out.lt; omega))
                  replace HC := HC2
                  clear HC2
                  replace HBL := Lib.hid (HBL.out.grown hg2 HBL.out.size (fun g hg => (HA.out.lt g hg).1))
                  replace HA := Lib.hid hown2
                  clear hown2 hg2 hat2
                  obtain ⟨va, rfl⟩ : ∃ x : Value, x = v2 := ⟨_, rfl⟩
                  obtain ⟨wc, rfl⟩ : ∃ x : World, x = w3 := ⟨_, rfl⟩
                  refine stepH 11 rfl (by kernel_rfl) (by rfl) (fun K hK => ?_)
                  (refine wp_append_any _ (.tmp 82) (.tmp 85) _ rfl w0.heap.size 31 i0 _ 2 16 Try.underlying37 hi0 hz0' hz1 hz2 rfl (by omega) _ (0 + k + 1) _ rfl HA.out _ A2 (t - k) _ ((ts.drop k).flatMap pc) rfl (HRD2.out.below HBL.out) pcs_one (by unfold maxLen; omega) (by omega) HBL.out.size ?_; intro v2 w3 hown2 hg2 hat2)
                  (refine hK.out _ _ ?_ (fun hHeld => ?_))
                  · exact SK.out _ (HBL.out.grown hg2 HBL.out.size (fun g hg => (HA.out.lt g hg).1))
                  clear hK K
                  have HC2 := Lib.hid (HC.out.grown hg2 HNE.out)
                  replace HNE := Lib.hid (show some gc ≠ v2.ownBlock from by
                    rcases hat2 with e | e
                    · rw [e]; exact HNE.out
                    · rw [e]; exact fun e => absurd (Option.some.inj e) (by have := HC.out.lt; omega))
                  replace HC := HC2
                  clear HC2
                  replace HBL := Lib.hid (HBL.out.grown hg2 HBL.out.size (fun g hg => (HA.out.lt g hg).1))
                  replace HA := Lib.hid hown2
                  clear hown2 hg2 hat2
                  obtain ⟨va, rfl⟩ : ∃ x : Value, x = v2 := ⟨_, rfl⟩
                  obtain ⟨wc, rfl⟩ : ∃ x : World, x = w3 := ⟨_, rfl⟩
                  ((refine takeY 12 (v := ?_) rfl (by kernel_rfl) (by kernel_rfl) (by kernel_rfl) (fun _ _ _ h => h) (by rfl) (by assumption) ?_ ?_; rotate_left; · (intro w hSw; (try dsimp only at hSw); go_simp; (first | done | with_reducible rfl))))
                  (try simp only [Act.put, List.setIfInBounds_toArray, List.set_cons_zero, List.set_cons_succ])
                  refine wpAnyH_done (by kernel_rfl) ?_ _
                  clear hHeld hs1 hs2 HC HNE
                  go_wp2
                  refine ⟨⟨i + 1, ts.take k ++ p :: ts.drop k, by go_num, by omega, ?_, HPL.out.ins HX.out HPP.out, HR2.out.below HBL.out, HB2.out.trans (HBL.out.mono HB2.out.size)⟩, by simp [cntI]; omega⟩
                  have hA9 := HA.out
                  rw [List.nil_append] at hA9
                  show World.ownsRow _ _ _ _ _ _ _
                  rw [show (ts.take k ++ p :: ts.drop k).length = 0 + k + 1 + (t - k) from by rw [List.length_append, List.length_cons, List.length_take, List.length_drop]; have := HT.out; omega, List.flatMap_append, List.flatMap_cons, ← List.append_assoc]
                  exact ownsRow_mono hA9 HB2.out.size
          · have g2 : decide ((k : Int) > 0) = false := by simp; omega
            have g2' : decide (0 < (k : Int)) = false := by simp; omega
            have HPP := Lib.hid (show PPos ts p k from by
              have e : k = 0 := by omega
              subst e
              exact HPH.out.pos0)
            go_wp2_with fail
            go_quiet (fail)
            replace HBX := Lib.hid (HBX.out.drewN nq)
            replace HR := Lib.hid (HR.out.drewN nq)
            replace HB := Lib.hid (below_drewN HB.out nq)
            replace HRD := Lib.hid (show Reads (w5.drewN nq) (w5.drewN nq).heap.size 2 A t (ts.flatMap pc) from HRD.out)
            clear HW5 e0 e1
            generalize w5.drewN nq = w6 at *
            obtain ⟨A2, hA2⟩ : ∃ A2, (if cc = k then (A : Option Addr) else Option.map (fun a : Addr => a.add (k * 2)) A) = A2 := ⟨_, rfl⟩
            have hs1 : ∀ w' : World, (Instr.slice 37 (.slice A t cc) none (some (.int .i64 (k : Int))) none).run Try.prog w' = .ok (.slice A k cc) w' := fun w' => run_cut_lo w' Try.underlying37 hi0 A t cc k (by have := HCC.out; omega)
            have hs2 : ∀ w' : World, (Instr.slice 37 (.slice A t cc) (some (.int .i64 (k : Int))) none none).run Try.prog w' = .ok (.slice A2 (t - k) (cc - k)) w' := fun w' => by rw [← hA2]; exact run_cut_hi w' Try.underlying37 hi0 2 hz1 A t cc k hkt
            have HRD1 := Lib.hid (show Reads w6.drew w6.drew.heap.size 2 A k ((ts.take k).flatMap pc) from by rw [← flat_take pc_len]; exact HRD.out.takeS hkt)
            have HRD2 := Lib.hid (show Reads w6.drew w6.drew.heap.size 2 A2 (t - k) ((ts.drop k).flatMap pc) from by rw [← hA2, ← flat_drop pc_len]; exact Reads.cut (show Reads w6 w6.heap.size 2 A t (ts.flatMap pc) from HRD.out) hkt HCC.out)
            have SK := Lib.hid (show ∀ w', Below w6.drew.heap.size w6.drew w' → w'.cell? ⟨gp, 0, none⟩ = some (.int .i64 p.1.1) ∧ w'.cell? ⟨gp, 1, none⟩ = some (.int .u64 p.1.2) from fun w' hb => have hx9 : Blk w6.drew gp 31 #[.int .i64 p.1.1, .int .u64 p.1.2] := HBX.out; ⟨((hx9.below hb hx9.lt).cell 0).trans rfl, ((hx9.below hb hx9.lt).cell 1).trans rfl⟩)
            have HB2 := Lib.hid (show Below w.heap.size w w6.drew from HB.out.drew)
            have HR2 := Lib.hid (show RU w6.drew c B _ xs from HR.out.drewN 1)
            clear hA2 HRD HR HB HRW
            go_upto_region 10 with fail
            refine wp_region_held_drew (S := (fun w' => w'.cell? ⟨gp, 0, none⟩ = some (.int .i64 p.1.1) ∧ w'.cell? ⟨gp, 1, none⟩ = some (.int .u64 p.1.2))) (by kernel_rfl) ?_ (fun hHeld => ?_)
            · exact SK.out _ (Below.refl _ _)
            generalize w6.drew = w0 at *
            obtain ⟨wc, hwc, HBL, hHeld⟩ : ∃ wc, w0 = wc ∧ Hid (Below w0.heap.size w0 wc) ∧ (wc.cell? ⟨gp, 0, none⟩ = some (.int .i64 p.1.1) ∧ wc.cell? ⟨gp, 1, none⟩ = some (.int .u64 p.1.2)) := ⟨w0, rfl, Lib.hid (Below.refl _ _), hHeld⟩
            rw [hwc]
            clear hwc
            ((refine takeY 1 (v := ?_) rfl (by kernel_rfl) (by kernel_rfl) (by kernel_rfl) (fun _ _ _ h => h) (by rfl) (by assumption) ?_ ?_; rotate_left; · (intro w hSw; (try dsimp only at hSw); go_simp; (first | done | with_reducible rfl))))
            (try simp only [Act.put, List.setIfInBounds_toArray, List.set_cons_zero, List.set_cons_succ])
            ((refine takeY 2 (v := ?_) rfl (by kernel_rfl) (by kernel_rfl) (by kernel_rfl) (fun _ _ _ h => h) (by rfl) (by assumption) ?_ ?_; rotate_left; · (intro w hSw; (try dsimp only at hSw); go_simp; (first | done | with_reducible rfl))))
            (try simp only [Act.put, List.setIfInBounds_toArray, List.set_cons_zero, List.set_cons_succ])
            ((refine takeY 3 (v := ?_) rfl (by kernel_rfl) (by kernel_rfl) (by kernel_rfl) (fun _ _ _ h => h) (by rfl) (by assumption) ?_ ?_; rotate_left; · (intro w hSw; (try dsimp only at hSw); go_simp; (first | done | with_reducible rfl))))
            (try simp only [Act.put, List.setIfInBounds_toArray, List.set_cons_zero, List.set_cons_succ])
            ((refine takeY 5 (v := ?_) rfl (by kernel_rfl) (by kernel_rfl) (by kernel_rfl) (fun _ _ _ h => h) (by rfl) (by assumption) ?_ ?_; rotate_left; · (intro w hSw; (try dsimp only at hSw); go_simp; (first | done | with_reducible rfl))))
            (try simp only [Act.put, List.setIfInBounds_toArray, List.set_cons_zero, List.set_cons_succ])
            ((refine takeY 8 (v := ?_) rfl (by kernel_rfl) (by kernel_rfl) (by kernel_rfl) (fun _ _ _ h => h) (by rfl) (by assumption) ?_ ?_; rotate_left; · (intro w hSw; (try dsimp only at hSw); go_simp; (first | done | with_reducible rfl))))
            (try simp only [Act.put, List.setIfInBounds_toArray, List.set_cons_zero, List.set_cons_succ])
            ((refine takeY 9 (v := ?_) rfl (by kernel_rfl) (by kernel_rfl) (by kernel_rfl) (fun _ _ _ h => h) (by rfl) (by assumption) ?_ ?_; rotate_left; · (intro w hSw; (try dsimp only at hSw); go_simp; (first | done | with_reducible rfl))))
            (try simp only [Act.put, List.setIfInBounds_toArray, List.set_cons_zero, List.set_cons_succ])
            ((refine takeY 10 (v := ?_) rfl (by kernel_rfl) (by kernel_rfl) (by kernel_rfl) (fun _ _ _ h => h) (by rfl) (by assumption) ?_ ?_; rotate_left; · (intro w hSw; (try dsimp only at hSw); go_simp; (first | done | with_reducible rfl))))
            (try simp only [Act.put, List.setIfInBounds_toArray, List.set_cons_zero, List.set_cons_succ])
            refine wpAnyH_ready (rs := [0, 6]) (by kernel_rfl) (by simp) ?_
            refine consH 0 rfl (by rfl) (fun K hK => ?_) (consH 6 rfl (by rfl) (fun K hK => ?_) (AllReadyH.nil))
            · go_simp
              (refine hK.out _ _ ?_ (fun hHeld => ?_))
              · exact SK.out _ (HBL.out.alloc HBL.out.size _)
              clear hK K
              have HA := Lib.hid (show (wc.alloc (.cells #[] 31)).ownsRow w0.heap.size 31 2 (.slice (some ⟨wc.heap.size, 0, none⟩) 0 0) 0 [] from World.ownsRow_lit wc #[] 0 HBL.out.size (by unfold maxLen; omega) rfl)
              replace HBL := Lib.hid (HBL.out.alloc HBL.out.size (.cells #[] 31))
              generalize hwn : wc.alloc (.cells #[] 31) = wn at *
              clear hwn
              generalize hga : wc.heap.size = ga at *
              clear hga
              obtain ⟨wc, rfl⟩ : ∃ x : World, x = wn := ⟨_, rfl⟩
              refine wpAnyH_ready (rs := [4, 6]) (by kernel_rfl) (by simp) ?_
              refine consH 4 rfl (by rfl) (fun K hK => ?_) (consH 6 rfl (by rfl) (fun K hK => ?_) (AllReadyH.nil))
              · (refine wp_append_any _ (.tmp 75) (.tmp 78) _ rfl w0.heap.size 31 i0 _ 2 16 Try.underlying37 hi0 hz0' hz1 hz2 rfl (by omega) _ 0 _ rfl HA.out _ A k _ ((ts.take k).flatMap pc) rfl (HRD1.out.below HBL.out) pcs_one (by unfold maxLen; omega) (by omega) HBL.out.size ?_; intro v2 w3 hown2 hg2 hat2)
                (refine hK.out _ _ ?_ (fun hHeld => ?_))
                · exact SK.out _ (HBL.out.grown hg2 HBL.out.size (fun g hg => (HA.out.lt g hg).1))
                clear hK K
                replace HBL := Lib.hid (HBL.out.grown hg2 HBL.out.size (fun g hg => (HA.out.lt g hg).1))
                replace HA := Lib.hid hown2
                clear hown2 hg2 hat2
                obtain ⟨va, rfl⟩ : ∃ x : Value, x = v2 := ⟨_, rfl⟩
                obtain ⟨wc, rfl⟩ : ∃ x : World, x = w3 := ⟨_, rfl⟩
                refine stepH 6 rfl (by kernel_rfl) (by rfl) (fun K hK => ?_)
                go_simp
                (refine hK.out _ _ ?_ (fun hHeld => ?_))
                · exact SK.out _ (HBL.out.alloc HBL.out.size _)
                clear hK K
                have HC := Lib.hid (Blk.new wc 31 #[.int .i64 p.1.1, .int .u64 p.1.2])
                have HNE := Lib.hid (show some wc.heap.size ≠ va.ownBlock from fun e => by have := (HA.out.lt _ e.symm).2; omega)
                replace HA := Lib.hid (HA.out.alloc (.cells #[.int .i64 p.1.1, .int .u64 p.1.2] 31))
                replace HBL := Lib.hid (HBL.out.alloc HBL.out.size (.cells #[.int .i64 p.1.1, .int .u64 p.1.2] 31))
                generalize hwn : wc.alloc (.cells #[.int .i64 p.1.1, .int .u64 p.1.2] 31) = wn at *
                clear hwn
                generalize hgc : wc.heap.size = gc at *
                clear hgc
                obtain ⟨wc, rfl⟩ : ∃ x : World, x = wn := ⟨_, rfl⟩
                refine stepH 7 rfl (by kernel_rfl) (by rfl) (fun K hK => ?_)
                (refine wp_append_any _ (.tmp 79) (.tmp 81) _ rfl w0.heap.size 31 i0 _ 2 16 Try.underlying37 hi0 hz0' hz1 hz2 rfl (by omega) _ (0 + k) _ rfl HA.out _ (some ⟨gc, 0, none⟩) 1 _ (pc p) rfl (reads_pl HC.out) (pc_one p) (by unfold maxLen; omega) (by omega) HBL.out.size ?_; intro v2 w3 hown2 hg2 hat2)
                (refine hK.out _ _ ?_ (fun hHeld => ?_))
                · exact SK.out _ (HBL.out.grown hg2 HBL.out.size (fun g hg => (HA.out.lt g hg).1))
                clear hK K
                have HC2 := Lib.hid (HC.out.grown hg2 HNE.out)
                replace HNE := Lib.hid (show some gc ≠ v2.ownBlock from by
                  rcases hat2 with e | e
                  · rw [e]; exact HNE.out
                  · rw [e]; exact fun e => absurd (Option.some.inj e) (by have := HC.out.lt; omega))
                replace HC := HC2
                clear HC2
                replace HBL := Lib.hid (HBL.out.grown hg2 HBL.out.size (fun g hg => (HA.out.lt g hg).1))
                replace HA := Lib.hid hown2
                clear hown2 hg2 hat2
                obtain ⟨va, rfl⟩ : ∃ x : Value, x = v2 := ⟨_, rfl⟩
                obtain ⟨wc, rfl⟩ : ∃ x : World, x = w3 := ⟨_, rfl⟩
                refine stepH 11 rfl (by kernel_rfl) (by rfl) (fun K hK => ?_)
                (refine wp_append_any _ (.tmp 82) (.tmp 85) _ rfl w0.heap.size 31 i0 _ 2 16 Try.underlying37 hi0 hz0' hz1 hz2 rfl (by omega) _ (0 + k + 1) _ rfl HA.out _ A2 (t - k) _ ((ts.drop k).flatMap pc) rfl (HRD2.out.below HBL.out) pcs_one (by unfold maxLen; omega) (by omega) HBL.out.size ?_; intro v2 w3 hown2 hg2 hat2)
                (refine hK.out _ _ ?_ (fun hHeld => ?_))
                · exact SK.out _ (HBL.out.grown hg2 HBL.out.size (fun g hg => (HA.out.lt g hg).1))
                clear hK K
                have HC2 := Lib.hid (HC.out.grown hg2 HNE.out)
                replace HNE := Lib.hid (show some gc ≠ v2.ownBlock from by
                  rcases hat2 with e | e
                  · rw [e]; exact HNE.out
                  · rw [e]; exact fun e => absurd (Option.some.inj e) (by have := HC.out.lt; omega))
                replace HC := HC2
                clear HC2
                replace HBL := Lib.hid (HBL.out.grown hg2 HBL.out.size (fun g hg => (HA.out.lt g hg).1))
                replace HA := Lib.hid hown2
                clear hown2 hg2 hat2
                obtain ⟨va, rfl⟩ : ∃ x : Value, x = v2 := ⟨_, rfl⟩
                obtain ⟨wc, rfl⟩ : ∃ x : World, x = w3 := ⟨_, rfl⟩
                ((refine takeY 12 (v := ?_) rfl (by kernel_rfl) (by kernel_rfl) (by kernel_rfl) (fun _ _ _ h => h) (by rfl) (by assumption) ?_ ?_; rotate_left; · (intro w hSw; (try dsimp only at hSw); go_simp; (first | done | with_reducible rfl))))
                (try simp only [Act.put, List.setIfInBounds_toArray, List.set_cons_zero, List.set_cons_succ])
                refine wpAnyH_done (by kernel_rfl) ?_ _
                clear hHeld hs1 hs2 HC HNE
                go_wp2
                refine ⟨⟨i + 1, ts.take k ++ p :: ts.drop k, by go_num, by omega, ?_, HPL.out.ins HX.out HPP.out, HR2.out.below HBL.out, HB2.out.trans (HBL.out.mono HB2.out.size)⟩, by simp [cntI]; omega⟩
                have hA9 := HA.out
                rw [List.nil_append] at hA9
                show World.ownsRow _ _ _ _ _ _ _
                rw [show (ts.take k ++ p :: ts.drop k).length = 0 + k + 1 + (t - k) from by rw [List.length_append, List.length_cons, List.length_take, List.length_drop]; have := HT.out; omega, List.flatMap_append, List.flatMap_cons, ← List.append_assoc]
                exact ownsRow_mono hA9 HB2.out.size
              · go_simp
                (refine hK.out _ _ ?_ (fun hHeld => ?_))
                · exact SK.out _ (HBL.out.alloc HBL.out.size _)
                clear hK K
                have HC := Lib.hid (Blk.new wc 31 #[.int .i64 p.1.1, .int .u64 p.1.2])
                have HNE := Lib.hid (show some wc.heap.size ≠ (Value.slice (some ⟨ga, 0, none⟩) 0 0).ownBlock from fun e => absurd ((HA.out.lt _ e.symm).2) (by omega))
                replace HA := Lib.hid (HA.out.alloc (.cells #[.int .i64 p.1.1, .int .u64 p.1.2] 31))
                replace HBL := Lib.hid (HBL.out.alloc HBL.out.size (.cells #[.int .i64 p.1.1, .int .u64 p.1.2] 31))
                generalize hwn : wc.alloc (.cells #[.int .i64 p.1.1, .int .u64 p.1.2] 31) = wn at *
                clear hwn
                generalize hgc : wc.heap.size = gc at *
                clear hgc
                obtain ⟨wc, rfl⟩ : ∃ x : World, x = wn := ⟨_, rfl⟩
                refine stepH 4 rfl (by kernel_rfl) (by rfl) (fun K hK => ?_)
                (refine wp_append_any _ (.tmp 75) (.tmp 78) _ rfl w0.heap.size 31 i0 _ 2 16 Try.underlying37 hi0 hz0' hz1 hz2 rfl (by omega) _ 0 _ rfl HA.out _ A k _ ((ts.take k).flatMap pc) rfl (HRD1.out.below HBL.out) pcs_one (by unfold maxLen; omega) (by omega) HBL.out.size ?_; intro v2 w3 hown2 hg2 hat2)
                (refine hK.out _ _ ?_ (fun hHeld => ?_))
                · exact SK.out _ (HBL.out.grown hg2 HBL.out.size (fun g hg => (HA.out.lt g hg).1))
                clear hK K
                have HC2 := Lib.hid (HC.out.grown hg2 HNE.out)
                replace HNE := Lib.hid (show some gc ≠ v2.ownBlock from by
                  rcases hat2 with e | e
                  · rw [e]; exact HNE.out
                  · rw [e]; exact fun e => absurd (Option.some.inj e) (by have := HC.out.lt; omega))
                replace HC := HC2
                clear HC2
                replace HBL := Lib.hid (HBL.out.grown hg2 HBL.out.size (fun g hg => (HA.out.lt g hg).1))
                replace HA := Lib.hid hown2
                clear hown2 hg2 hat2
                obtain ⟨va, rfl⟩ : ∃ x : Value, x = v2 := ⟨_, rfl⟩
                obtain ⟨wc, rfl⟩ : ∃ x : World, x = w3 := ⟨_, rfl⟩
                refine stepH 7 rfl (by kernel_rfl) (by rfl) (fun K hK => ?_)
                (refine wp_append_any _ (.tmp 79) (.tmp 81) _ rfl w0.heap.size 31 i0 _ 2 16 Try.underlying37 hi0 hz0' hz1 hz2 rfl (by omega) _ (0 + k) _ rfl HA.out _ (some ⟨gc, 0, none⟩) 1 _ (pc p) rfl (reads_pl HC.out) (pc_one p) (by unfold maxLen; omega) (by omega) HBL.out.size ?_; intro v2 w3 hown2 hg2 hat2)
                (refine hK.out _ _ ?_ (fun hHeld => ?_))
                · exact SK.out _ (HBL.out.grown hg2 HBL.out.size (fun g hg => (HA.out.lt g hg).1))
                clear hK K
                have HC2 := Lib.hid (HC.out.grown hg2 HNE.out)
                replace HNE := Lib.hid (show some gc ≠ v2.ownBlock from by
                  rcases hat2 with e | e
                  · rw [e]; exact HNE.out
                  · rw [e]; exact fun e => absurd (Option.some.inj e) (by have := HC.out.lt; omega))
                replace HC := HC2
                clear HC2
                replace HBL := Lib.hid (HBL.out.grown hg2 HBL.out.size (fun g hg => (HA.out.lt g hg).1))
                replace HA := Lib.hid hown2
                clear hown2 hg2 hat2
                obtain ⟨va, rfl⟩ : ∃ x : Value, x = v2 := ⟨_, rfl⟩
                obtain ⟨wc, rfl⟩ : ∃ x : World, x = w3 := ⟨_, rfl⟩
                refine stepH 11 rfl (by kernel_rfl) (by rfl) (fun K hK => ?_)
                (refine wp_append_any _ (.tmp 82) (.tmp 85) _ rfl w0.heap.size 31 i0 _ 2 16 Try.underlying37 hi0 hz0' hz1 hz2 rfl (by omega) _ (0 + k + 1) _ rfl HA.out _ A2 (t - k) _ ((ts.drop k).flatMap pc) rfl (HRD2.out.below HBL.out) pcs_one (by unfold maxLen; omega) (by omega) HBL.out.size ?_; intro v2 w3 hown2 hg2 hat2)
                (refine hK.out _ _ ?_ (fun hHeld => ?_))
                · exact SK.out _ (HBL.out.grown hg2 HBL.out.size (fun g hg => (HA.out.lt g hg).1))
                clear hK K
                have HC2 := Lib.hid (HC.out.grown hg2 HNE.out)
                replace HNE := Lib.hid (show some gc ≠ v2.ownBlock from by
                  rcases hat2 with e | e
                  · rw [e]; exact HNE.out
                  · rw [e]; exact fun e => absurd (Option.some.inj e) (by have := HC.out.lt; omega))
                replace HC := HC2
                clear HC2
                replace HBL := Lib.hid (HBL.out.grown hg2 HBL.out.size (fun g hg => (HA.out.lt g hg).1))
                replace HA := Lib.hid hown2
                clear hown2 hg2 hat2
                obtain ⟨va, rfl⟩ : ∃ x : Value, x = v2 := ⟨_, rfl⟩
                obtain ⟨wc, rfl⟩ : ∃ x : World, x = w3 := ⟨_, rfl⟩
                ((refine takeY 12 (v := ?_) rfl (by kernel_rfl) (by kernel_rfl) (by kernel_rfl) (fun _ _ _ h => h) (by rfl) (by assumption) ?_ ?_; rotate_left; · (intro w hSw; (try dsimp only at hSw); go_simp; (first | done | with_reducible rfl))))
                (try simp only [Act.put, List.setIfInBounds_toArray, List.set_cons_zero, List.set_cons_succ])
                refine wpAnyH_done (by kernel_rfl) ?_ _
                clear hHeld hs1 hs2 HC HNE
                go_wp2
                refine ⟨⟨i + 1, ts.take k ++ p :: ts.drop k, by go_num, by omega, ?_, HPL.out.ins HX.out HPP.out, HR2.out.below HBL.out, HB2.out.trans (HBL.out.mono HB2.out.size)⟩, by simp [cntI]; omega⟩
                have hA9 := HA.out
                rw [List.nil_append] at hA9
                show World.ownsRow _ _ _ _ _ _ _
                rw [show (ts.take k ++ p :: ts.drop k).length = 0 + k + 1 + (t - k) from by rw [List.length_append, List.length_cons, List.length_take, List.length_drop]; have := HT.out; omega, List.flatMap_append, List.flatMap_cons, ← List.append_assoc]
                exact ownsRow_mono hA9 HB2.out.size
            · go_simp
              (refine hK.out _ _ ?_ (fun hHeld => ?_))
              · exact SK.out _ (HBL.out.alloc HBL.out.size _)
              clear hK K
              have HC := Lib.hid (Blk.new wc 31 #[.int .i64 p.1.1, .int .u64 p.1.2])
              replace HBL := Lib.hid (HBL.out.alloc HBL.out.size (.cells #[.int .i64 p.1.1, .int .u64 p.1.2] 31))
              generalize hwn : wc.alloc (.cells #[.int .i64 p.1.1, .int .u64 p.1.2] 31) = wn at *
              clear hwn
              generalize hgc : wc.heap.size = gc at *
              clear hgc
              obtain ⟨wc, rfl⟩ : ∃ x : World, x = wn := ⟨_, rfl⟩
              refine stepH 0 rfl (by kernel_rfl) (by rfl) (fun K hK => ?_)
              go_simp
              (refine hK.out _ _ ?_ (fun hHeld => ?_))
              · exact SK.out _ (HBL.out.alloc HBL.out.size _)
              clear hK K
              have HA := Lib.hid (show (wc.alloc (.cells #[] 31)).ownsRow w0.heap.size 31 2 (.slice (some ⟨wc.heap.size, 0, none⟩) 0 0) 0 [] from World.ownsRow_lit wc #[] 0 HBL.out.size (by unfold maxLen; omega) rfl)
              have HNE := Lib.hid (show some gc ≠ (Value.slice (some ⟨wc.heap.size, 0, none⟩) 0 0).ownBlock from fun e => absurd (Option.some.inj e) (by have := HC.out.lt; show ¬ gc = wc.heap.size; omega))
              replace HC := Lib.hid (HC.out.alloc (.cells #[] 31))
              replace HBL := Lib.hid (HBL.out.alloc HBL.out.size (.cells #[] 31))
              generalize hwn : wc.alloc (.cells #[] 31) = wn at *
              clear hwn
              generalize hga : wc.heap.size = ga at *
              clear hga
              obtain ⟨wc, rfl⟩ : ∃ x : World, x = wn := ⟨_, rfl⟩
              refine stepH 4 rfl (by kernel_rfl) (by rfl) (fun K hK => ?_)
              (refine wp_append_any _ (.tmp 75) (.tmp 78) _ rfl w0.heap.size 31 i0 _ 2 16 Try.underlying37 hi0 hz0' hz1 hz2 rfl (by omega) _ 0 _ rfl HA.out _ A k _ ((ts.take k).flatMap pc) rfl (HRD1.out.below HBL.out) pcs_one (by unfold maxLen; omega) (by omega) HBL.out.size ?_; intro v2 w3 hown2 hg2 hat2)
              (refine hK.out _ _ ?_ (fun hHeld => ?_))
              · exact SK.out _ (HBL.out.grown hg2 HBL.out.size (fun g hg => (HA.out.lt g hg).1))
              clear hK K
              have HC2 := Lib.hid (HC.out.grown hg2 HNE.out)
              replace HNE := Lib.hid (show some gc ≠ v2.ownBlock from by
                rcases hat2 with e | e
                · rw [e]; exact HNE.out
                · rw [e]; exact fun e => absurd (Option.some.inj e) (by have := HC.out.lt; omega))
              replace HC := HC2
              clear HC2
              replace HBL := Lib.hid (HBL.out.grown hg2 HBL.out.size (fun g hg => (HA.out.lt g hg).1))
              replace HA := Lib.hid hown2
              clear hown2 hg2 hat2
              obtain ⟨va, rfl⟩ : ∃ x : Value, x = v2 := ⟨_, rfl⟩
              obtain ⟨wc, rfl⟩ : ∃ x : World, x = w3 := ⟨_, rfl⟩
              refine stepH 7 rfl (by kernel_rfl) (by rfl) (fun K hK => ?_)
              (refine wp_append_any _ (.tmp 79) (.tmp 81) _ rfl w0.heap.size 31 i0 _ 2 16 Try.underlying37 hi0 hz0' hz1 hz2 rfl (by omega) _ (0 + k) _ rfl HA.out _ (some ⟨gc, 0, none⟩) 1 _ (pc p) rfl (reads_pl HC.out) (pc_one p) (by unfold maxLen; omega) (by omega) HBL.out.size ?_; intro v2 w3 hown2 hg2 hat2)
              (refine hK.out _ _ ?_ (fun hHeld => ?_))
              · exact SK.out _ (HBL.out.grown hg2 HBL.out.size (fun g hg => (HA.out.lt g hg).1))
              clear hK K
              have HC2 := Lib.hid (HC.out.grown hg2 HNE.out)
              replace HNE := Lib.hid (show some gc ≠ v2.ownBlock from by
                rcases hat2 with e | e
                · rw [e]; exact HNE.out
                · rw [e]; exact fun e => absurd (Option.some.inj e) (by have := HC.out.lt; omega))
              replace HC := HC2
              clear HC2
              replace HBL := Lib.hid (HBL.out.grown hg2 HBL.out.size (fun g hg => (HA.out.lt g hg).1))
              replace HA := Lib.hid hown2
              clear hown2 hg2 hat2
              obtain ⟨va, rfl⟩ : ∃ x : Value, x = v2 := ⟨_, rfl⟩
              obtain ⟨wc, rfl⟩ : ∃ x : World, x = w3 := ⟨_, rfl⟩
              refine stepH 11 rfl (by kernel_rfl) (by rfl) (fun K hK => ?_)
              (refine wp_append_any _ (.tmp 82) (.tmp 85) _ rfl w0.heap.size 31 i0 _ 2 16 Try.underlying37 hi0 hz0' hz1 hz2 rfl (by omega) _ (0 + k + 1) _ rfl HA.out _ A2 (t - k) _ ((ts.drop k).flatMap pc) rfl (HRD2.out.below HBL.out) pcs_one (by unfold maxLen; omega) (by omega) HBL.out.size ?_; intro v2 w3 hown2 hg2 hat2)
              (refine hK.out _ _ ?_ (fun hHeld => ?_))
              · exact SK.out _ (HBL.out.grown hg2 HBL.out.size (fun g hg => (HA.out.lt g hg).1))
              clear hK K
              have HC2 := Lib.hid (HC.out.grown hg2 HNE.out)
              replace HNE := Lib.hid (show some gc ≠ v2.ownBlock from by
                rcases hat2 with e | e
                · rw [e]; exact HNE.out
                · rw [e]; exact fun e => absurd (Option.some.inj e) (by have := HC.out.lt; omega))
              replace HC := HC2
              clear HC2
              replace HBL := Lib.hid (HBL.out.grown hg2 HBL.out.size (fun g hg => (HA.out.lt g hg).1))
              replace HA := Lib.hid hown2
              clear hown2 hg2 hat2
              obtain ⟨va, rfl⟩ : ∃ x : Value, x = v2 := ⟨_, rfl⟩
              obtain ⟨wc, rfl⟩ : ∃ x : World, x = w3 := ⟨_, rfl⟩
              ((refine takeY 12 (v := ?_) rfl (by kernel_rfl) (by kernel_rfl) (by kernel_rfl) (fun _ _ _ h => h) (by rfl) (by assumption) ?_ ?_; rotate_left; · (intro w hSw; (try dsimp only at hSw); go_simp; (first | done | with_reducible rfl))))
              (try simp only [Act.put, List.setIfInBounds_toArray, List.set_cons_zero, List.set_cons_succ])
              refine wpAnyH_done (by kernel_rfl) ?_ _
              clear hHeld hs1 hs2 HC HNE
              go_wp2
              refine ⟨⟨i + 1, ts.take k ++ p :: ts.drop k, by go_num, by omega, ?_, HPL.out.ins HX.out HPP.out, HR2.out.below HBL.out, HB2.out.trans (HBL.out.mono HB2.out.size)⟩, by simp [cntI]; omega⟩
              have hA9 := HA.out
              rw [List.nil_append] at hA9
              show World.ownsRow _ _ _ _ _ _ _
              rw [show (ts.take k ++ p :: ts.drop k).length = 0 + k + 1 + (t - k) from by rw [List.length_append, List.length_cons, List.length_take, List.length_drop]; have := HT.out; omega, List.flatMap_append, List.flatMap_cons, ← List.append_assoc]
              exact ownsRow_mono hA9 HB2.out.size
      · have hf1 : (f' != f) = true := by simp; exact hf
        have HPL2 := Lib.hid (HPL.out.skip hx hf)
        clear hx hf
        go_wp2
        exact ⟨⟨i + 1, ts, by go_num, by omega, HRW.out, HPL2.out, HR.out, HB.out⟩, by simp [cntI]; omega⟩
    · obtain rfl : i = n := by omega
      have g1 : decide ((i : Int) < (i : Int)) = false := by simp
      go_wp2
      go_ret
      exact ⟨_, ts, rfl, HPL.out.all HN.out HS.out, HRW.out, HB.out⟩
end Go.Proofs.Ytdnfjpelhiniaaa
