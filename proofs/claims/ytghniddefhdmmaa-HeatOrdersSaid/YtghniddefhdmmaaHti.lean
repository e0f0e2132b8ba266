/- slices.SortStableFunc of places by their heats: up to 40. -/
import Derived.Test.YtghniddefhdmmaaSyo
import Derived.Test.YtghniddefhdmmaaHte
namespace Go.Proofs.Ytghniddefhdmmaa
open Go.RowKit Flo

theorem sym_any (base g n cap hp hr : Nat) (hs : List (Int × Int)) (hne : g ≠ hp ∧ g ≠ hr) (hn : n ≤ 1000) : ∀ (k : Nat) (d : List Int) (a m b : Nat) (w : World), b - a ≤ k → RowX w base g n cap d → HMem w hp hr n hs → (∀ x ∈ d, 0 ≤ x ∧ x < n) → Sm (lex hs) d a m b → a < m → m < b → b ≤ n →
    Calls Try.prog 31 #[.slice (some ⟨g, 0, none⟩) n cap, .int .i64 a, .int .i64 m, .int .i64 b, cmpG hp] w (SymIs w base g n cap hs d a b) := by
  intro k
  induction k with
  | zero => intro d a m b w h0; intros; omega
  | succ k ih =>
    intro d a m b w h0 h hm hix hsm ham hmb hb
    by_cases h1 : m = a + 1
    · subst h1
      exact sym_up base g 0 n cap a b hp hr hs rfl d w h hm hne hix hsm hmb hb hn
    · by_cases h2 : b = m + 1
      · subst h2
        exact sym_down base g 0 n cap a m hp hr hs rfl d w h hm hne hix hsm (by omega) hb hn
      · exact sym_gen base g 0 n cap a m b hp hr hs rfl d w h hm hne hix hsm (by omega) (by omega) hb hn (fun d1 a' m' b' w1 hlt h' hm' hix' hsm' k1 k2 k3 => ih d1 a' m' b' w1 (by omega) h' hm' hix' hsm' k1 k2 k3)

/-- t blocks of 20 are in order. -/
structure Stb (K : Int → Int) (d : List Int) (n t : Nat) : Prop where
  srt : ∀ i, i < t → KS K d (20 * i) (20 * i + 20)
  crs : ∀ p q, p < q → q < n → (p / 20 ≠ q / 20 ∨ 20 * t ≤ p) → ele d p < ele d q

theorem KS.same {K : Int → Int} {d d' : List Int} {a b : Nat} (h : KS K d a b) (he : ∀ k, a ≤ k → k < b → ele d' k = ele d k) : KS K d' a b := fun p q h1 h2 h3 => by
  rw [he p h1 (by omega), he q (by omega) h3]; exact h p q h1 h2 h3

theorem Stb.step {K : Int → Int} {d d' : List Int} {n t c : Nat} (h : Stb K d n t) (hl : d.length = n) (hs : Seg d d' (20 * t) c) (hc : 20 * t ≤ c ∧ c ≤ n) (hc2 : c ≤ 20 * t + 20) : ∀ p q, p < q → q < n → (p / 20 ≠ q / 20 ∨ 20 * (t + 1) ≤ p) → ele d' p < ele d' q := by
  intro p q h1 h2 h3
  by_cases hp : 20 * t ≤ p ∧ p < c
  · have hq : c ≤ q := by omega
    rw [hs.out q (.inr hq)]
    exact hs.all (by omega) (p := fun x => x < ele d q) (fun k k1 k2 => h.crs k q (by omega) h2 (.inr k1)) p hp.1 hp.2
  · rw [hs.out p (by omega)]
    by_cases hq : 20 * t ≤ q ∧ q < c
    · exact hs.all (by omega) (p := fun x => ele d p < x) (fun k k1 k2 => h.crs p k (by omega) (by omega) (.inl (by omega))) q hq.1 hq.2
    · rw [hs.out q (by omega)]; exact h.crs p q h1 h2 (by omega)

def StR (w : World) (base g n cap : Nat) (K : Int → Int) (d : List Int) (a b : Value) (wr : World) : Prop := ∃ (t : Nat) (d' : List Int), a = .int .i64 (20 * t : Nat) ∧ b = .int .i64 (20 * t + 20 : Nat) ∧ 20 * t ≤ n ∧ RowI w base g n cap d 0 n d' wr ∧ Stb K d' n t
def FinS (w : World) (base g n cap : Nat) (K : Int → Int) (d : List Int) (wr : World) : Prop := ∃ d', RowI w base g n cap d 0 n d' wr ∧ KS K d' 0 n
def OutS (w w2 : World) (base g n cap : Nat) (K : Int → Int) (d : List Int) (s : Value) (wr : World) : Prop := (s = .int .i64 20 ∧ wr = w2) ∨ (s = .int .i64 40 ∧ FinS w base g n cap K d wr)
def InnS (w w2 : World) (base g n cap : Nat) (K : Int → Int) (d : List Int) (a b : Value) (wr : World) : Prop := (a = .int .i64 0 ∧ b = .int .i64 40 ∧ wr = w2) ∨ (a = .int .i64 40 ∧ b = .int .i64 80 ∧ n = 40 ∧ FinS w base g n cap K d wr)

set_option maxRecDepth 100000 in
set_option maxHeartbeats 8000000 in
theorem stable_any (base g n cap hp hr : Nat) (hs : List (Int × Int)) (d : List Int) (w : World) (h : RowX w base g n cap d) (hm : HMem w hp hr n hs) (hne : g ≠ hp ∧ g ≠ hr) (hix : ∀ x ∈ d, 0 ≤ x ∧ x < n)
    (hrise : ∀ p q, 0 ≤ p → p < q → q < n → ele d p < ele d q) (hn : 20 ≤ n) (hn2 : n ≤ 40) :
    Calls Try.prog 27 #[.slice (some ⟨g, 0, none⟩) n cap, .int .i64 n, cmpF hp] w fun e w' => e = .returned (.tuple #[]) ∧ ∃ d', RowI w base g n cap d 0 n d' w' ∧ Srtd (d'.map (lex hs)) 0 n := by
  have HM0 := Lib.hid (show ∀ dj wr, RowI w base g n cap d 0 n dj wr → HMem wr hp hr n hs from fun dj wr hr => hm.grown hr.grown hne.1 hne.2)
  have HIX := Lib.hid hix
  have HRI := Lib.hid hrise
  have HW := Lib.hid h
  clear h hm hix hrise
  go_enter Try.func27, Try.ntmps27
  go_wp2_with fail
  go_loopw [7, 8] (StR w base g n cap (lex hs) d) (fun _ b _ => n + 20 - cnt b)
  case atStart => exact ⟨0, d, rfl, rfl, Nat.zero_le _, RowI.start HW.out _ _, ⟨fun i hi => by omega, fun p q h1 h2 _ => HRI.out p q (Nat.zero_le _) h1 h2⟩⟩
  case round =>
    obtain ⟨t, d', rfl, rfl, htn, hrow, hst⟩ := hrel
    have HR := Lib.hid hrow
    have HS := Lib.hid hst
    clear hrow hst
    by_cases hle : 20 * t + 20 ≤ n
    · have C := Lib.hid (ins_h base g 0 n cap (20 * t) (20 * t + 20) hp hr hs rfl d' wr HR.out.own (HM0.out _ _ HR.out) hne (HR.out.seg.mem HIX.out) (fun p q h1 h2 h3 => HS.out.crs p q h2 (by omega) (.inr h1)) (by omega) hle (by omega))
      have g1 : decide (((20 * t + 20 : Nat) : Int) ≤ (n : Int)) = true := by simp; omega
      obtain ⟨u, hu⟩ : ∃ u, 20 * t = u := ⟨_, rfl⟩
      obtain ⟨v, hv⟩ : ∃ v, 20 * t + 20 = v := ⟨_, rfl⟩
      have HUV := Lib.hid (And.intro hu hv)
      rw [hv] at C g1 ⊢
      rw [hu] at C ⊢
      have hvn : v ≤ n := by omega
      clear hu hv hle htn
      go_wp2_with fail
      refine C.out.mono ?_; rintro e w1 ⟨rfl, d1, hr1, hs1⟩
      have HR1 := Lib.hid hr1
      have HS1 := Lib.hid hs1
      clear hr1 hs1
      go_wp2
      go_roundw
      case rel =>
        obtain ⟨hu, hv⟩ := HUV.out
        have hr1 := HR1.out
        refine ⟨t + 1, d1, by congr 1; omega, by congr 1; omega, by omega, HR.out.trans (hr1.mono (a' := 0) (b' := n) (Nat.zero_le _) hvn) (Nat.le_refl _) (Nat.le_refl _), ⟨fun i hi => ?_, ?_⟩⟩
        · by_cases e : i = t
          · subst e
            have := KS.of HS1.out (by rw [hr1.len]; exact hvn)
            rw [← hu, ← hv] at this; exact this
          · exact (HS.out.srt i (by omega)).same (fun k k1 k2 => hr1.seg.out k (.inl (by omega)))
        · have hsg := hr1.seg
          rw [← hu] at hsg
          exact HS.out.step HR.out.len hsg (by omega) (by omega)
      case measure => have := HUV.out; simp [cnt]; omega
    · have C := Lib.hid (ins_h base g 0 n cap (20 * t) n hp hr hs rfl d' wr HR.out.own (HM0.out _ _ HR.out) hne (HR.out.seg.mem HIX.out) (fun p q h1 h2 h3 => HS.out.crs p q h2 (by omega) (.inr h1)) (by omega) (Nat.le_refl _) (by omega))
      have g1 : decide (((20 * t + 20 : Nat) : Int) ≤ (n : Int)) = false := by simp; omega
      obtain ⟨u, hu⟩ : ∃ u, 20 * t = u := ⟨_, rfl⟩
      obtain ⟨v, hv⟩ : ∃ v, 20 * t + 20 = v := ⟨_, rfl⟩
      have HUV := Lib.hid (And.intro hu hv)
      have HNV := Lib.hid hle
      rw [hv] at g1 ⊢
      rw [hu] at C ⊢
      have hnv : decide (v ≤ n) = false := by simp; omega
      have HTN := Lib.hid htn
      clear hu hv hle htn
      go_wp2_with fail
      refine C.out.mono ?_; rintro e w2 ⟨rfl, d2, hr2, hs2⟩
      have HR2 := Lib.hid (HR.out.trans (hr2.mono (a' := 0) (b' := n) (Nat.zero_le _) (Nat.le_refl _)) (Nat.le_refl _) (Nat.le_refl _))
      have HSM := Lib.hid (show Sm (lex hs) d2 0 20 n from by
        obtain ⟨hu, hv⟩ := HUV.out
        have hnv := HNV.out
        have htn := HTN.out
        have hk := KS.of hs2 (by rw [hr2.len]; exact Nat.le_refl _)
        have hsg := hr2.seg
        rw [← hu] at hsg hk
        have hcr := HS.out.step HR.out.len hsg (by omega) (by omega)
        have hb : ∀ i, i < t → KS (lex hs) d2 (20 * i) (20 * i + 20) := fun i hi => (HS.out.srt i hi).same (fun k k1 k2 => hsg.out k (.inl (by omega)))
        refine ⟨by simpa using hb 0 (by omega), ?_, fun p q h1 h2 h3 h4 => hcr p q (by omega) h4 (.inl (by omega))⟩
        by_cases e : t = 1
        · subst e; exact hk
        · obtain rfl : t = 2 := by omega
          obtain rfl : n = 40 := by omega
          exact hb 1 (by omega))
      clear hr2 hs2 HUV HNV HS HR C
      go_wp2_with fail
      obtain ⟨wo, hwo⟩ : ∃ wo : World, wo = w2 := ⟨_, rfl⟩
      rw [← hwo] at HR2 ⊢
      clear hwo
      have CS := Lib.hid (fun (h20 : 20 < n) => sym_any base g n cap hp hr hs hne (by omega) n d2 0 20 n wo (by omega) HR2.out.own (HM0.out _ _ HR2.out) (HR2.out.seg.mem HIX.out) HSM.out (by omega) h20 (Nat.le_refl _))
      go_loopw [6, 7, 8, 9] (fun s _ _ _ wr => OutS w wo base g n cap (lex hs) d s wr) (fun s _ _ _ _ => 40 - cnt s)
      case atStart => exact .inl ⟨rfl, rfl⟩
      case round =>
        rcases hrel with ⟨rfl, rfl⟩ | ⟨rfl, hfin⟩
        · by_cases h20 : 20 < n
          · have CT : Hid (Calls Try.prog 31 #[.slice (some ⟨g, 0, none⟩) n cap, .int .i64 0, .int .i64 20, .int .i64 n, cmpG hp] wr (SymIs wr base g n cap hs d2 0 n)) := Lib.hid (CS.out h20)
            have g0 : decide ((20 : Int) < (n : Int)) = true := by simp; omega
            clear CS
            go_wp2_with fail
            obtain ⟨wz, hwz⟩ : ∃ wz : World, wz = wr := ⟨_, rfl⟩
            rw [← hwz] at CT HR2 ⊢
            clear hwz
            go_loopw [7, 8] (InnS w wz base g n cap (lex hs) d) (fun _ b _ => 80 - cnt b)
            case atStart => exact .inl ⟨rfl, rfl, rfl⟩
            case round =>
              rcases hrel with ⟨rfl, rfl, rfl⟩ | ⟨rfl, rfl, hn40, hfin⟩
              · by_cases h40 : n = 40
                · have HN40 := Lib.hid h40
                  have g2 : decide ((40 : Int) ≤ (n : Int)) = true := by simp; omega
                  have g3 : decide (40 ≤ n) = true := by simp; omega
                  have CT4 : Hid (Calls Try.prog 31 #[.slice (some ⟨g, 0, none⟩) n cap, .int .i64 0, .int .i64 20, .int .i64 40, cmpG hp] wr (SymIs wr base g n cap hs d2 0 n)) := Lib.hid (by
                    have := CT.out
                    rw [show (n : Int) = 40 by omega] at this
                    exact this)
                  clear h40 CT
                  go_wp2_with fail
                  refine CT4.out.mono ?_; rintro e w3 ⟨rfl, d3, hr3, hk3⟩
                  have HF := Lib.hid (show FinS w base g n cap (lex hs) d w3 from ⟨d3, HR2.out.trans hr3 (Nat.le_refl _) (Nat.le_refl _), hk3⟩)
                  clear hr3 hk3
                  go_wp2
                  go_roundw
                  case rel => exact .inr ⟨rfl, rfl, HN40.out, HF.out⟩
                  case measure => simp [cnt]
                · have g2 : decide ((40 : Int) ≤ (n : Int)) = false := by simp; omega
                  have g3 : decide (40 ≤ n) = false := by simp; omega
                  go_wp2_with fail
                  refine CT.out.mono ?_; rintro e w3 ⟨rfl, d3, hr3, hk3⟩
                  have HF := Lib.hid (show FinS w base g n cap (lex hs) d w3 from ⟨d3, HR2.out.trans hr3 (Nat.le_refl _) (Nat.le_refl _), hk3⟩)
                  clear hr3 hk3
                  go_wp2
                  go_roundw
                  case rel => exact .inr ⟨rfl, HF.out⟩
                  case measure => simp [cnt]
              · have HF := Lib.hid hfin
                have g2 : decide ((80 : Int) ≤ (n : Int)) = false := by simp; omega
                have g3 : decide (80 ≤ n) = false := by simp; omega
                have g4 : decide ((60 : Int) < (n : Int)) = false := by simp; omega
                have g5 : decide (60 < n) = false := by simp; omega
                clear hfin hn40
                go_wp2
                go_roundw
                case rel => exact .inr ⟨rfl, HF.out⟩
                case measure => simp [cnt]
          · have h20' : n = 20 := by omega
            have HN20 := Lib.hid h20'
            have g2 : decide ((20 : Int) < (n : Int)) = false := by simp; omega
            have g3 : decide (20 < n) = false := by simp; omega
            clear h20'
            go_wp2
            go_end0
            exact ⟨rfl, d2, HR2.out, by
              have h1 := HSM.out.lo
              have h2 := HR2.out.len
              have h3 := HN20.out
              rw [h3]
              exact h1.to (by omega)⟩
        · have g2 : decide ((40 : Int) < (n : Int)) = false := by simp; omega
          have g3 : decide (40 < n) = false := by simp; omega
          have HF := Lib.hid hfin
          clear hfin
          go_wp2
          go_end0
          obtain ⟨d3, h1, h2⟩ := HF.out
          exact ⟨rfl, d3, h1, h2.to (by rw [h1.len]; exact Nat.le_refl _)⟩

theorem stableOk40 : StableOk 40 := by
  intro base g n cap hp hr hs d w h hm hne hix hrise hn
  by_cases h20 : n < 20
  · exact stableOk19 base g n cap hp hr hs d w h hm hne hix hrise (by omega)
  have C := Lib.hid (stable_any base g n cap hp hr hs d w h hm hne hix hrise (by omega) hn)
  clear h hm hne hix hrise h20
  go_enter Try.func20, Try.ntmps20
  go_wp2_with fail
  refine C.out.mono ?_; rintro e w1 ⟨rfl, hfin⟩
  have HF := Lib.hid hfin
  clear hfin
  go_wp2
  go_end0
  exact ⟨rfl, HF.out⟩
end Go.Proofs.Ytghniddefhdmmaa
