/- symMergeCmpFunc of the library at int, over the comparison of Rank: many against many, by two lesser merges; and all of it. -/
import Derived.Test.YtghniddefhdmmaaSyn
import Derived.Deep.DeepCutAuto
import Derived.Deep.CutBlock
namespace Go.Proofs.Ytghniddefhdmmaa
open Go.RowKit Flo

theorem Sm.seg {K : Int → Int} {d d' : List Int} {a m b : Nat} (h : Sm K d a m b) (he : ∀ k, a ≤ k → k < b → ele d' k = ele d k) (hm : m ≤ b := by omega) (ha : a ≤ m := by omega) : Sm K d' a m b :=
  ⟨fun p q h1 h2 h3 => by rw [he p h1 (by omega), he q (by omega) (by omega)]; exact h.lo p q h1 h2 h3,
   fun p q h1 h2 h3 => by rw [he p (by omega) (by omega), he q (by omega) h3]; exact h.hi p q h1 h2 h3,
   fun p q h1 h2 h3 h4 => by rw [he p h1 (by omega), he q (by omega) h4]; exact h.cross p q h1 h2 h3 h4⟩

/-- The bounds of the search. -/
structure Bds (a m b t l0 h0 : Nat) : Prop where
  al : a ≤ l0
  lh : l0 ≤ h0
  hm : h0 ≤ m
  ht : h0 ≤ t
  lb : t + m ≤ b + l0
  one : l0 = a ∨ t + m = b + l0
  two : h0 = m ∨ h0 = t

theorem Bds.hp {a m b t l0 h0 : Nat} (h : Bds a m b t l0 h0) (_hmb : m < b) : ∀ x, l0 ≤ x → x < h0 → m ≤ t + m - 1 - x ∧ t + m - 1 - x < b ∧ x ≤ t + m - 1 := fun x h1 h2 => by
  obtain ⟨k1, k2, k3, k4, k5, _, _⟩ := h
  omega

def CutA (w : World) (a m b t : Nat) (v20 v21 : Value) (wr : World) : Prop := ∃ l0 h0 : Nat, v20 = .int .i64 l0 ∧ v21 = .int .i64 h0 ∧ Bds a m b t l0 h0 ∧ wr = w
def SchR (w : World) (base g n cap : Nat) (K : Int → Int) (d : List Int) (a b l0 h0 p0 : Nat) (v20 v21 : Value) (wr : World) : Prop := ∃ s r : Nat, v20 = .int .i64 s ∧ v21 = .int .i64 r ∧ Sch K d l0 h0 p0 s r ∧ RowI w base g n cap d a b d wr
def CutT (w : World) (e p q r s : Nat) (v24 v : Value) (wr : World) : Prop := v24 = .int .i64 e ∧ ∃ z : Bool, v = .bool z ∧ (z = true ↔ (p < q ∧ r < s)) ∧ wr = w
def CutB (w : World) (base g n cap : Nat) (d : List Int) (a m b s e : Nat) (v24 : Value) (wr : World) : Prop := v24 = .int .i64 e ∧ ∃ d1, RowI w base g n cap d a b d1 wr ∧ Rot d s m e d1
def CutC (w : World) (base g n cap : Nat) (K : Int → Int) (d d1 : List Int) (a b t e : Nat) (v24 : Value) (wr : World) : Prop := v24 = .int .i64 e ∧ ∃ d2, RowI w base g n cap d a b d2 wr ∧ Seg d1 d2 a t ∧ KS K d2 a t

set_option maxRecDepth 100000 in
set_option maxHeartbeats 8000000 in
theorem sym_gen (base g off n cap a m b hp hr : Nat) (hs : List (Int × Int)) (hoff : off = 0) (d : List Int) (w : World) (h : RowX w base g n cap d) (hm : HMem w hp hr n hs) (hne : g ≠ hp ∧ g ≠ hr) (hix : ∀ x ∈ d, 0 ≤ x ∧ x < n)
    (hsm : Sm (lex hs) d a m b) (ham : a + 1 < m) (hmb : m + 1 < b) (hb : b ≤ n) (hn : n ≤ 1000)
    (ih : ∀ (d1 : List Int) (a' m' b' : Nat) (w1 : World), b' - a' < b - a → RowX w1 base g n cap d1 → HMem w1 hp hr n hs → (∀ x ∈ d1, 0 ≤ x ∧ x < n) → Sm (lex hs) d1 a' m' b' → a' < m' → m' < b' → b' ≤ n →
      Calls Try.prog 31 #[.slice (some ⟨g, off, none⟩) n cap, .int .i64 a', .int .i64 m', .int .i64 b', cmpG hp] w1 (SymIs w1 base g n cap hs d1 a' b')) :
    Calls Try.prog 31 #[.slice (some ⟨g, off, none⟩) n cap, .int .i64 a, .int .i64 m, .int .i64 b, cmpG hp] w (SymIs w base g n cap hs d a b) := by
  have HO := Lib.hid hoff
  have HIH := Lib.hid ih
  have HM0 := Lib.hid (show ∀ dj wr, RowI w base g n cap d a b dj wr → HMem wr hp hr n hs from fun dj wr hr => hm.grown hr.grown hne.1 hne.2)
  have HIX := Lib.hid (pos_of (by have := h.1; simpa using this) hix)
  have HIX0 := Lib.hid hix
  have HSM := Lib.hid hsm
  have HW := Lib.hid h
  have hlen : d.length = n := by have := h.1; simpa using this
  have HLEN := Lib.hid hlen
  have b1 : (((m : Int) - (a : Int)) == 1) = false := by rw [beq_eq_false_iff_ne]; omega
  have b2 : (((b : Int) - (m : Int)) == 1) = false := by rw [beq_eq_false_iff_ne]; omega
  clear hoff hm hix hsm h ih hlen
  obtain ⟨t, ht⟩ : ∃ t, t = (a + b) / 2 := ⟨_, rfl⟩
  obtain ⟨N0, hN0⟩ : ∃ N0, N0 = t + m := ⟨_, rfl⟩
  obtain ⟨p0, hp0⟩ : ∃ p0, p0 = t + m - 1 := ⟨_, rfl⟩
  have et : ((a : Int) + (b : Int)) / 2 = (t : Int) := by omega
  have eN : (t : Int) + (m : Int) = (N0 : Int) := by omega
  have ep : (N0 : Int) - 1 = (p0 : Int) := by omega
  have ht1 : a + b ≤ 2 * t + 1 := by omega
  have ht2 : 2 * t ≤ a + b := by omega
  have hN1 : N0 ≤ t + m := by omega
  have hN2 : t + m ≤ N0 := by omega
  have hp1 : p0 + 1 ≤ t + m := by omega
  have hp2 : t + m ≤ p0 + 1 := by omega
  clear ht hN0 hp0
  go_enter Try.func31, Try.ntmps31
  go_upto_if 140 with fail
  go_cut [20, 21] (CutA w a m b t)
  case first => as_aux_lemma =>
    by_cases hmt : t < m
    · have b3 : decide ((t : Int) < (m : Int)) = true := by simp; omega
      go_wp2_with fail
      go_meet
      case rel => exact ⟨N0 - b, t, by congr 1; omega, rfl, ⟨by omega, by omega, by omega, by omega, by omega, by omega, .inr rfl⟩, rfl⟩
    · have b3 : decide ((t : Int) < (m : Int)) = false := by simp; omega
      go_wp2_with fail
      go_meet
      case rel => exact ⟨a, m, rfl, rfl, ⟨by omega, by omega, by omega, by omega, by omega, .inl rfl, .inl rfl⟩, rfl⟩
  case rest =>
    obtain ⟨l0, h0, rfl, rfl, hbds, hwc⟩ := hcut
    rw [hwc]
    clear hwc
    have HB := Lib.hid hbds
    have hlh := hbds.lh
    have hh1 := hbds.hm
    have hh2 := hbds.ht
    have hla := hbds.al
    have hlb := hbds.lb
    clear hbds
    go_wp2_with fail
    go_loopw [20, 21] (SchR w base g n cap (lex hs) d a b l0 h0 p0) (fun u v _ => cnt v - cnt u)
    case atStart => exact ⟨l0, h0, rfl, rfl, Sch.start _ _ _ _ _ hlh, RowI.start HW.out _ _⟩
    case round =>
      obtain ⟨s, r, rfl, rfl, hsch, hrow⟩ := hrel
      have HR := Lib.hid hrow
      have HS := Lib.hid hsch
      have hs1 := hsch.ls
      have hs2 := hsch.sr
      have hs3 := hsch.rh
      clear hrow hsch
      by_cases hlt : s < r
      · as_aux_lemma =>
        have b3 : decide ((s : Int) < (r : Int)) = true := by simp; omega
        obtain ⟨c, hc1, hc2, ec⟩ : ∃ c : Nat, s ≤ c ∧ c < r ∧ ((s : Int) + (r : Int)) / 2 = (c : Int) := ⟨(s + r) / 2, by omega, by omega, by omega⟩
        obtain ⟨u, hu1, hu2, hu3, eu⟩ : ∃ u : Nat, m ≤ u ∧ u < b ∧ u = p0 - c ∧ (p0 : Int) - (c : Int) = (u : Int) := ⟨p0 - c, by omega, by omega, rfl, by omega⟩
        have HU := Lib.hid hu3
        clear hu3
        have hwu : IntKind.i64.wrap (u : Int) = (u : Int) := IntWalk.i64_in _ (by omega)
        obtain ⟨x, hx, hxn⟩ := HIX.out u (by omega)
        obtain ⟨y, hy, hyn⟩ := HIX.out c (by omega)
        have c1 : wr.cell? ⟨g, off + u, none⟩ = some (.int .i64 (x : Int)) := by rw [← hx, HO.out, Nat.zero_add]; exact HR.out.cell u (by omega)
        have c2 : wr.cell? ⟨g, off + c, none⟩ = some (.int .i64 (y : Int)) := by rw [← hy, HO.out, Nat.zero_add]; exact HR.out.cell c (by omega)
        have hxy : y < x := by
          have := HSM.out.cross c u (by omega) (by omega) (by omega) (by omega)
          rw [hx, hy] at this
          omega
        have HMJ := Lib.hid ((HM0.out d wr HR.out).drew)
        have HIFF := Lib.hid (lex_lt (HMJ.out.rg hxn) (HMJ.out.rg hyn) hxy (by omega))
        have HCC := Lib.hid (show wr.drew.cell? ⟨g, off + u, none⟩ = some (.int .i64 (x : Int)) ∧ wr.drew.cell? ⟨g, off + c, none⟩ = some (.int .i64 (y : Int)) from ⟨c1, c2⟩)
        have HKP := Lib.hid (show ∀ w1, Below wr.drew.heap.size wr.drew w1 → w1.cell? ⟨g, off + u, none⟩ = some (.int .i64 (x : Int)) ∧ w1.cell? ⟨g, off + c, none⟩ = some (.int .i64 (y : Int)) from fun w1 hb1 => by
          have hr1 := HR.out.drew.below hb1
          constructor
          · rw [← hx, HO.out, Nat.zero_add]; exact hr1.cell u (by omega)
          · rw [← hy, HO.out, Nat.zero_add]; exact hr1.cell c (by omega))
        have HX := Lib.hid hx
        have HY := Lib.hid hy
        have hln1 : u < n := by omega
        have hln2 : c < n := by omega
        clear c1 c2 hx hy hxy
        go_wp2_with fail
        refine wp_region_held_drew (S := (fun w' => w'.cell? ⟨g, off + u, none⟩ = some (.int .i64 (x : Int)) ∧ w'.cell? ⟨g, off + c, none⟩ = some (.int .i64 (y : Int)))) (by kernel_rfl) ?_ (fun hHeld => ?_)
        · exact HCC.out
        ((refine takeY 0 (v := ?_) rfl (by kernel_rfl) (by kernel_rfl) (by kernel_rfl) (fun _ _ _ h => h) (by rfl) (by assumption) ?_ ?_; rotate_left; · (intro w hSw; (try dsimp only at hSw); go_simp; (first | done | with_reducible rfl))))
        (try simp only [Act.put, List.setIfInBounds_toArray, List.set_cons_zero, List.set_cons_succ])
        ((refine takeY 1 (v := ?_) rfl (by kernel_rfl) (by kernel_rfl) (by kernel_rfl) (fun _ _ _ h => h) (by rfl) (by assumption) ?_ ?_; rotate_left; · (intro w hSw; (try dsimp only at hSw); go_simp; (first | done | with_reducible rfl))))
        (try simp only [Act.put, List.setIfInBounds_toArray, List.set_cons_zero, List.set_cons_succ])
        ((refine takeY 2 (v := ?_) rfl (by kernel_rfl) (by kernel_rfl) (by kernel_rfl) (fun _ _ _ h => h) (by rfl) (by assumption) ?_ ?_; rotate_left; · (intro w hSw; (try dsimp only at hSw); go_simp; (first | done | with_reducible rfl))))
        (try simp only [Act.put, List.setIfInBounds_toArray, List.set_cons_zero, List.set_cons_succ])
        ((refine takeY 3 (v := ?_) rfl (by kernel_rfl) (by kernel_rfl) (by kernel_rfl) (fun _ _ _ h => h) (by rfl) (by assumption) ?_ ?_; rotate_left; · (intro w hSw; (try dsimp only at hSw); go_simp; (first | done | with_reducible rfl))))
        (try simp only [Act.put, List.setIfInBounds_toArray, List.set_cons_zero, List.set_cons_succ])
        ((refine takeY 4 (v := ?_) rfl (by kernel_rfl) (by kernel_rfl) (by kernel_rfl) (fun _ _ _ h => h) (by rfl) (by assumption) ?_ ?_; rotate_left; · (intro w hSw; (try dsimp only at hSw); go_simp; (first | done | with_reducible rfl))))
        (try simp only [Act.put, List.setIfInBounds_toArray, List.set_cons_zero, List.set_cons_succ])
        ((refine takeY 5 (v := ?_) rfl (by kernel_rfl) (by kernel_rfl) (by kernel_rfl) (fun _ _ _ h => h) (by rfl) (by assumption) ?_ ?_; rotate_left; · (intro w hSw; (try dsimp only at hSw); go_simp; (first | done | with_reducible rfl))))
        (try simp only [Act.put, List.setIfInBounds_toArray, List.set_cons_zero, List.set_cons_succ])
        ((refine takeY 6 (v := ?_) rfl (by kernel_rfl) (by kernel_rfl) (by kernel_rfl) (fun _ _ _ h => h) (by rfl) (by assumption) ?_ ?_; rotate_left; · (intro w hSw; (try dsimp only at hSw); go_simp; (first | done | with_reducible rfl))))
        (try simp only [Act.put, List.setIfInBounds_toArray, List.set_cons_zero, List.set_cons_succ])
        ((refine takeY 7 (v := ?_) rfl (by kernel_rfl) (by kernel_rfl) (by kernel_rfl) (fun _ _ _ h => h) (by rfl) (by assumption) ?_ ?_; rotate_left; · (intro w hSw; (try dsimp only at hSw); go_simp; (first | done | with_reducible rfl))))
        (try simp only [Act.put, List.setIfInBounds_toArray, List.set_cons_zero, List.set_cons_succ])
        ((refine takeY 8 (v := ?_) rfl (by kernel_rfl) (by kernel_rfl) (by kernel_rfl) (fun _ _ _ h => h) (by rfl) (by assumption) ?_ ?_; rotate_left; · (intro w hSw; (try dsimp only at hSw); go_simp; (first | done | with_reducible rfl))))
        (try simp only [Act.put, List.setIfInBounds_toArray, List.set_cons_zero, List.set_cons_succ])
        ((refine takeY 9 (v := ?_) rfl (by kernel_rfl) (by kernel_rfl) (by kernel_rfl) (fun _ _ _ h => h) (by rfl) (by assumption) ?_ ?_; rotate_left; · (intro w hSw; (try dsimp only at hSw); go_simp; (first | done | with_reducible rfl))))
        (try simp only [Act.put, List.setIfInBounds_toArray, List.set_cons_zero, List.set_cons_succ])
        ((refine takeY 10 (v := ?_) rfl (by kernel_rfl) (by kernel_rfl) (by kernel_rfl) (fun _ _ _ h => h) (by rfl) (by assumption) ?_ ?_; rotate_left; · (intro w hSw; (try dsimp only at hSw); go_simp; (first | done | with_reducible rfl))))
        (try simp only [Act.put, List.setIfInBounds_toArray, List.set_cons_zero, List.set_cons_succ])
        try (((refine takeY 12 (v := ?_) rfl (by kernel_rfl) (by decide +kernel) (by decide +kernel) (fun _ _ _ h => h) (by rfl) (by assumption) ?_ ?_; rotate_left; · (intro w hSw; (try dsimp only at hSw); go_simp; (first | done | with_reducible rfl)))); (try simp only [Act.put, List.setIfInBounds_toArray, List.set_cons_zero, List.set_cons_succ]))
        try (((refine takeY 13 (v := ?_) rfl (by kernel_rfl) (by decide +kernel) (by decide +kernel) (fun _ _ _ h => h) (by rfl) (by assumption) ?_ ?_; rotate_left; · (intro w hSw; (try dsimp only at hSw); go_simp; (first | done | with_reducible rfl)))); (try simp only [Act.put, List.setIfInBounds_toArray, List.set_cons_zero, List.set_cons_succ]))
        first
          | (refine takeN 11 rfl (by kernel_rfl) (by kernel_rfl) (by kernel_rfl) (fun _ _ _ h => h) (by rfl) (by assumption) ?_)
          | (refine stepH 11 rfl (by kernel_rfl) (by rfl) (fun K hK => ?_)
             go_simp
             ((with_reducible refine (cmp_any hp hr n hs x y _ HMJ.out hxn hyn).mono ?_); rintro e w1 ⟨rfl, hb1⟩; have HB1 := Lib.hid hb1; clear hb1)
             (refine hK.out _ _ ?_ (fun hHeld => ?_))
             · exact HKP.out _ HB1.out
             clear hK K)
        try (((refine takeY 12 (v := ?_) rfl (by kernel_rfl) (by decide +kernel) (by decide +kernel) (fun _ _ _ h => h) (by rfl) (by assumption) ?_ ?_; rotate_left; · (intro w hSw; (try dsimp only at hSw); go_simp; (first | done | with_reducible rfl)))); (try simp only [Act.put, List.setIfInBounds_toArray, List.set_cons_zero, List.set_cons_succ]))
        try (((refine takeY 13 (v := ?_) rfl (by kernel_rfl) (by decide +kernel) (by decide +kernel) (fun _ _ _ h => h) (by rfl) (by assumption) ?_ ?_; rotate_left; · (intro w hSw; (try dsimp only at hSw); go_simp; (first | done | with_reducible rfl)))); (try simp only [Act.put, List.setIfInBounds_toArray, List.set_cons_zero, List.set_cons_succ]))
        refine wpAnyH_done (by kernel_rfl) ?_ _
        have HR1 := Lib.hid (HR.out.drew.below HB1.out)
        have HP := Lib.hid (show ∀ x, l0 ≤ x → x < h0 → m ≤ p0 - x ∧ p0 - x < b ∧ x ≤ p0 from fun x x1 x2 => by omega)
        clear hHeld HCC HKP hwu
        by_cases hcc : cvH (hAt hs x) (hAt hs y) < 0
        · have hcv : decide (cvH (hAt hs x) (hAt hs y) < 0) = true := by simpa using hcc
          have HLT := Lib.hid (show lex hs (ele d (p0 - c)) < lex hs (ele d c) from by rw [← HU.out, HX.out, HY.out]; exact HIFF.out.1 hcc)
          rw [hcv]
          clear hcc hcv
          go_wp2
          go_roundw
          case rel => exact ⟨s, c, rfl, rfl, HS.out.down HSM.out hla hh1 HP.out hc1 hc2 HLT.out, HR1.out⟩
          case measure => simp [cnt]; omega
        · have hcv : decide (cvH (hAt hs x) (hAt hs y) < 0) = false := by simpa using hcc
          have HLT := Lib.hid (show lex hs (ele d c) ≤ lex hs (ele d (p0 - c)) from by rw [← HU.out, HX.out, HY.out]; have := mt HIFF.out.2 hcc; omega)
          rw [hcv]
          clear hcc hcv
          go_wp2
          go_roundw
          case rel => exact ⟨c + 1, r, by go_num, rfl, HS.out.up HSM.out hla hh1 HP.out hc1 hc2 HLT.out, HR1.out⟩
          case measure => simp [cnt]; omega
      · have b3 : decide ((s : Int) < (r : Int)) = false := by simp; omega
        obtain rfl : r = s := by omega
        obtain ⟨e, he1, he2, he3, ee⟩ : ∃ e : Nat, m ≤ e ∧ e ≤ b ∧ e + r = N0 ∧ (N0 : Int) - (r : Int) = (e : Int) := ⟨N0 - r, by omega, by omega, by omega, by omega⟩
        have hrm : r ≤ m := by omega
        have har : a ≤ r := by omega
        have hrt : r ≤ t := by omega
        have hte : t = r + (e - m) := by omega
        have HTE := Lib.hid hte
        have HMID := Lib.hid (fun (d1 : List Int) (hr1 : Rot d r m e d1) => HSM.out.mid hr1 har hrm he1 he2 hte
          (fun k1 k2 => by
            have := HS.out.low (r - 1) (by have := HB.out.one; omega) (by omega)
            rw [show p0 - (r - 1) = e by omega] at this
            exact this)
          (fun k1 k2 => by
            have := HS.out.high r (Nat.le_refl _) (by have := HB.out.two; omega)
            rw [show p0 - r = e - 1 by omega] at this
            exact this))
        clear hte HS
        go_upto_region 39 with fail
        go_cut [24, 185] (CutT wr e r m m e)
        case first => as_aux_lemma =>
          by_cases h1 : r < m
          · have g1 : decide ((r : Int) < (m : Int)) = true := by simp; omega
            by_cases h2 : m < e
            · have g2 : decide ((m : Int) < (e : Int)) = true := by simp; omega
              have HG := Lib.hid (show (r < m ∧ m < e) from ⟨h1, h2⟩)
              go_wp2_with fail
              go_meet
              case rel => exact ⟨rfl, _, rfl, ⟨fun _ => HG.out, fun _ => rfl⟩, rfl⟩
            · have g2 : decide ((m : Int) < (e : Int)) = false := by simp; omega
              have HG := Lib.hid (show (false = true ↔ (r < m ∧ m < e)) by simp; omega)
              go_wp2_with fail
              go_meet
              case rel => exact ⟨rfl, _, rfl, HG.out, rfl⟩
          · have g1 : decide ((r : Int) < (m : Int)) = false := by simp; omega
            have HG := Lib.hid (show (false = true ↔ (r < m ∧ m < e)) by simp; omega)
            go_wp2_with fail
            go_meet
            case rel => exact ⟨rfl, _, rfl, HG.out, rfl⟩
        case rest =>
          obtain ⟨rfl, z, rfl, hz, hwc⟩ := hcut
          rw [hwc]
          have HZ := Lib.hid hz
          clear hwc hz
          go_upto_if 185 with fail
          go_cut [24] (CutB w base g n cap d a m b r e)
          case first => as_aux_lemma =>
            cases z
            · have HROT := Lib.hid (Rot.same (d := d) (a := r) (m := m) (b := e) (by have := HZ.out; simp at this; omega) hrm he1)
              go_wp2_with fail
              go_meet
              case rel => exact ⟨rfl, d, HR.out, HROT.out⟩
            · have hq1 : r < m := (HZ.out.1 rfl).1
              have hq2 : m < e := (HZ.out.1 rfl).2
              have CR := Lib.hid (rot_any base g n cap r m e (cmpG hp) d wr HR.out.own hq1 hq2 (by omega) hn)
              rw [← HO.out] at CR
              go_wp2_with fail
              refine CR.out.mono ?_
              rintro e0 w1 ⟨rfl, d1, hr1, hrot1⟩
              have HR1 := Lib.hid (HR.out.trans (hr1.mono (a' := a) (b' := b) har he2) (Nat.le_refl _) (Nat.le_refl _))
              have HROT := Lib.hid hrot1
              clear hr1 hrot1
              go_wp2_with fail
              go_meet
              case rel => exact ⟨rfl, d1, HR1.out, HROT.out⟩
          case rest =>
            obtain ⟨rfl, d1, hrow1, hrot1⟩ := hcut
            have HR1 := Lib.hid hrow1
            have HL := Lib.hid (HSM.out.left hrot1 har hrm he1 he2 HTE.out)
            have HRR := Lib.hid (HSM.out.right hrot1 har hrm he1 he2 HTE.out)
            have HX := Lib.hid (HMID.out d1 hrot1)
            have HL1 := Lib.hid (show d1.length = n from hrow1.len)
            clear hrow1 hrot1 HZ HMID
            clear z
            obtain ⟨w1, hw1⟩ : ∃ w1 : World, w1 = wc := ⟨_, rfl⟩
            rw [← hw1] at HR1 ⊢
            clear hw1
            go_upto_region 41 with fail
            go_cut [24, 199] (CutT w1 e a r r t)
            case first => as_aux_lemma =>
              by_cases h1 : a < r
              · have g1 : decide ((a : Int) < (r : Int)) = true := by simp; omega
                by_cases h2 : r < t
                · have g2 : decide ((r : Int) < (t : Int)) = true := by simp; omega
                  have HG := Lib.hid (show (a < r ∧ r < t) from ⟨h1, h2⟩)
                  go_wp2_with fail
                  go_meet
                  case rel => exact ⟨rfl, _, rfl, ⟨fun _ => HG.out, fun _ => rfl⟩, rfl⟩
                · have g2 : decide ((r : Int) < (t : Int)) = false := by simp; omega
                  have HG := Lib.hid (show (false = true ↔ (a < r ∧ r < t)) by simp; omega)
                  go_wp2_with fail
                  go_meet
                  case rel => exact ⟨rfl, _, rfl, HG.out, rfl⟩
              · have g1 : decide ((a : Int) < (r : Int)) = false := by simp; omega
                have HG := Lib.hid (show (false = true ↔ (a < r ∧ r < t)) by simp; omega)
                go_wp2_with fail
                go_meet
                case rel => exact ⟨rfl, _, rfl, HG.out, rfl⟩
            case rest =>
              obtain ⟨rfl, z, rfl, hz, hwc⟩ := hcut
              rw [hwc]
              have HZ := Lib.hid hz
              clear hwc hz
              go_upto_if 199 with fail
              go_cut [24] (CutC w base g n cap (lex hs) d d1 a b t e)
              case first => as_aux_lemma =>
                cases z
                · have HK := Lib.hid (show KS (lex hs) d1 a t from by
                    have := HZ.out
                    simp at this
                    by_cases ea : a = r
                    · have := HL.out.hi
                      rw [← ea] at this; exact this
                    · have et2 : r = t := by omega
                      have := HL.out.lo
                      rw [et2] at this; exact this)
                  go_wp2_with fail
                  go_meet
                  case rel => exact ⟨rfl, d1, HR1.out, Seg.refl _ _ _, HK.out⟩
                · have hq1 : a < r := (HZ.out.1 rfl).1
                  have hq2 : r < t := (HZ.out.1 rfl).2
                  have CR := Lib.hid (HIH.out d1 a r t w1 (by omega) HR1.out.own (HM0.out _ _ HR1.out) (HR1.out.seg.mem HIX0.out) HL.out hq1 hq2 (by omega))
                  go_wp2_with fail
                  refine CR.out.mono ?_
                  rintro e0 w2 ⟨rfl, d2, hr2, hk2⟩
                  have HR2 := Lib.hid (HR1.out.trans (hr2.mono (a' := a) (b' := b) (Nat.le_refl _) (by omega)) (Nat.le_refl _) (Nat.le_refl _))
                  have HK2 := Lib.hid hk2
                  have HSG2 := Lib.hid hr2.seg
                  clear hr2 hk2
                  go_wp2_with fail
                  go_meet
                  case rel => exact ⟨rfl, d2, HR2.out, HSG2.out, HK2.out⟩
              case rest =>
                obtain ⟨rfl, d2, hrow2, hsg2, hk2⟩ := hcut
                have HR2 := Lib.hid hrow2
                have HSG2 := Lib.hid hsg2
                have HK2 := Lib.hid hk2
                have HRR2 := Lib.hid (HRR.out.seg (d' := d2) (fun k k1 k2 => hsg2.out k (.inr k1)))
                clear hrow2 hsg2 hk2 HZ
                clear z
                obtain ⟨w2, hw2⟩ : ∃ w2 : World, w2 = wc := ⟨_, rfl⟩
                rw [← hw2] at HR2 ⊢
                clear hw2
                go_upto_region 43 with fail
                go_cut [24, 213] (CutT w2 e t e e b)
                case first => as_aux_lemma =>
                  by_cases h1 : t < e
                  · have g1 : decide ((t : Int) < (e : Int)) = true := by simp; omega
                    by_cases h2 : e < b
                    · have g2 : decide ((e : Int) < (b : Int)) = true := by simp; omega
                      have HG := Lib.hid (show (t < e ∧ e < b) from ⟨h1, h2⟩)
                      go_wp2_with fail
                      go_meet
                      case rel => exact ⟨rfl, _, rfl, ⟨fun _ => HG.out, fun _ => rfl⟩, rfl⟩
                    · have g2 : decide ((e : Int) < (b : Int)) = false := by simp; omega
                      have HG := Lib.hid (show (false = true ↔ (t < e ∧ e < b)) by simp; omega)
                      go_wp2_with fail
                      go_meet
                      case rel => exact ⟨rfl, _, rfl, HG.out, rfl⟩
                  · have g1 : decide ((t : Int) < (e : Int)) = false := by simp; omega
                    have HG := Lib.hid (show (false = true ↔ (t < e ∧ e < b)) by simp; omega)
                    go_wp2_with fail
                    go_meet
                    case rel => exact ⟨rfl, _, rfl, HG.out, rfl⟩
                case rest =>
                  obtain ⟨rfl, z, rfl, hz, hwc⟩ := hcut
                  rw [hwc]
                  have HZ := Lib.hid hz
                  clear hwc hz
                  go_upto_if 213 with fail
                  cases z
                  · have HK := Lib.hid (show KS (lex hs) d2 t b from by
                      have := HZ.out
                      simp at this
                      by_cases ea : t = e
                      · have := HRR2.out.hi
                        rw [← ea] at this; exact this
                      · have et2 : e = b := by omega
                        have := HRR2.out.lo
                        rw [et2] at this; exact this)
                    go_wp2
                    go_end0
                    exact ⟨rfl, d2, HR2.out, ks_join HX.out HSG2.out (Seg.refl _ _ _) HK2.out HK.out (by rw [HL1.out]; exact hb)⟩
                  · have hq1 : t < e := (HZ.out.1 rfl).1
                    have hq2 : e < b := (HZ.out.1 rfl).2
                    have CR := Lib.hid (HIH.out d2 t e b w2 (by omega) HR2.out.own (HM0.out _ _ HR2.out) (HR2.out.seg.mem HIX0.out) HRR2.out hq1 hq2 hb)
                    go_wp2_with fail
                    refine CR.out.mono ?_
                    rintro e0 w3 ⟨rfl, d3, hr3, hk3⟩
                    have HR3 := Lib.hid (HR2.out.trans (hr3.mono (a' := a) (b' := b) (by omega) (Nat.le_refl _)) (Nat.le_refl _) (Nat.le_refl _))
                    have HK3 := Lib.hid (ks_join HX.out HSG2.out hr3.seg HK2.out hk3 (by rw [HL1.out]; exact hb))
                    clear hr3 hk3
                    go_wp2
                    go_end0
                    exact ⟨rfl, d3, HR3.out, HK3.out⟩
end Go.Proofs.Ytghniddefhdmmaa
