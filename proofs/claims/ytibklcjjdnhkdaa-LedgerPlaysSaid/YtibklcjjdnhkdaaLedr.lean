/- What package demesneref11 does with its ledger in memory: row, party, next. -/
import Derived.Test.YtibklcjjdnhkdaaLedt
import Derived.Test.YtibklcjjdnhkdaaOnly
import Derived.Test.YtibklcjjdnhkdaaFlat
import Derived.Test.YtibklcjjdnhkdaaL11b
import Derived.RegionTactic
namespace Go.Proofs.Ytibklcjjdnhkdaa
open Go.RowKit Mf

theorem infoE : (Try.prog.info? 36).map (fun i => (i.zero, i.size, i.bytes)) = some (some (.agg #[.int .i64 0, .int .i64 0]), 2, 16) := by kernel_rfl

def enC (x : Int × Int) : List Value := [.int .i64 x.1, .int .i64 x.2]
theorem enC_len (x : Int × Int) : (enC x).length = 2 := rfl

/-- The reference's ledger in memory. -/
structure QAt (w : World) (rb B g n : Nat) (ps : List (Int × Int)) : Prop where
  blk : Blk w rb 50 #[.slice (some ⟨g, 0, none⟩) n n]
  own : w.ownsRow B 36 2 (.slice (some ⟨g, 0, none⟩) n n) n (ps.flatMap enC)
  len : ps.length = n
  lt : g < rb

theorem QAt.c0 {w : World} {rb B g n : Nat} {ps : List (Int × Int)} (h : QAt w rb B g n ps) : w.cell? ⟨rb, 0, none⟩ = some (.slice (some ⟨g, 0, none⟩) n n) := (h.blk.cell 0).trans rfl
theorem QAt.below {w w' : World} {rb B g n : Nat} {ps : List (Int × Int)} (h : QAt w rb B g n ps) (hb : Below w.heap.size w w') : QAt w' rb B g n ps := ⟨h.blk.below hb h.blk.lt, own_below h.own hb, h.len, h.lt⟩
theorem QAt.only {w w' : World} {rb B g n : Nat} {ps : List (Int × Int)} {S : Nat → Prop} (h : QAt w rb B g n ps) (ho : Only S w w') (h1 : ¬ S rb) (h2 : ¬ S g) : QAt w' rb B g n ps := by
  refine ⟨h.blk.only ho h1, ?_, h.len, h.lt⟩
  obtain ⟨h3, h4⟩ := h.own
  refine ⟨h3, ?_⟩
  rcases h4 with ⟨h4, _⟩ | ⟨g', cap, cur, e1, e2, e3, e4⟩
  · cases h4
  · injection e1 with e1 e5 e6
    injection e1 with e1
    injection e1 with e1
    subst e1 e6
    exact .inr ⟨g, _, cur, rfl, e2, (ho.block g (Array.getElem?_eq_some_iff.1 e3).1 h2).trans e3, e4⟩

/-- The reference's rows: from, to, named, of, whether there is one. -/
structure Rw where
  from_ : Int
  to : Int
  names : Bool
  of_ : Bool
  ok : Bool

def rowR (act : Int) : Rw :=
  if act = 1 then ⟨0, 1, false, false, true⟩ else if act = 2 then ⟨0, 2, false, false, true⟩ else if act = 3 then ⟨0, 4, true, false, true⟩ else if act = 4 then ⟨2, 3, true, false, true⟩ else if act = 5 then ⟨3, 2, true, true, true⟩
  else if act = 6 then ⟨4, 5, true, true, true⟩ else if act = 7 then ⟨5, 4, true, true, true⟩ else if act = 8 then ⟨4, 6, true, true, true⟩ else if act = 10 then ⟨6, 4, true, false, true⟩ else ⟨0, 0, false, false, false⟩

set_option maxHeartbeats 1000000 in
theorem row_any (act : Int) (w : World) : Calls Try.prog 26 #[.int .i64 act] w fun e w' => e = .returned (.tuple #[.int .i64 (rowR act).from_, .int .i64 (rowR act).to, .bool (rowR act).names, .bool (rowR act).of_, .bool (rowR act).ok]) ∧ w = w' := by
  by_cases h : act = 1 ∨ act = 2 ∨ act = 3 ∨ act = 4 ∨ act = 5 ∨ act = 6 ∨ act = 7 ∨ act = 8 ∨ act = 10
  · rcases h with rfl | rfl | rfl | rfl | rfl | rfl | rfl | rfl | rfl
    all_goals
      go_enter Try.func26, Try.ntmps26
      go_wp2
      exact bodyPost_ret (by simp [results, Try.results26, go_sem]; exact ⟨rfl, rfl, rfl, rfl, rfl⟩) rfl ⟨rfl, rfl⟩
  · have hR : rowR act = ⟨0, 0, false, false, false⟩ := by
      unfold rowR
      rw [if_neg (by omega), if_neg (by omega), if_neg (by omega), if_neg (by omega), if_neg (by omega), if_neg (by omega), if_neg (by omega), if_neg (by omega), if_neg (by omega)]
    rw [hR]
    have e1 : (act == 1) = false := by simp; omega
    have e2 : (act == 2) = false := by simp; omega
    have e3 : (act == 3) = false := by simp; omega
    have e4 : (act == 4) = false := by simp; omega
    have e5 : (act == 5) = false := by simp; omega
    have e6 : (act == 6) = false := by simp; omega
    have e7 : (act == 7) = false := by simp; omega
    have e8 : (act == 8) = false := by simp; omega
    have e9 : (act == 10) = false := by simp; omega
    clear h hR
    go_enter Try.func26, Try.ntmps26
    go_wp2
    exact bodyPost_ret (v := .tuple #[.int .i64 0, .int .i64 0, .bool false, .bool false, .bool false]) (by simp [results, Try.results26, go_sem]) rfl ⟨rfl, rfl⟩

def ptyB (p : Int) : Bool := decide (1 ≤ p) && decide (p ≤ 255)

set_option maxHeartbeats 1000000 in
theorem party_any (p : Int) (w : World) : Calls Try.prog 25 #[.int .i64 p] w fun e w' => e = .returned (.bool (ptyB p)) ∧ w = w' := by
  unfold ptyB
  by_cases h1 : 1 ≤ p
  · have h1' : decide (1 ≤ p) = true := by simpa using h1
    rw [h1', Bool.true_and]
    go_enter Try.func25, Try.ntmps25
    go_wp2
    go_ret
    exact ⟨rfl, rfl⟩
  · have h1' : decide (1 ≤ p) = false := by simpa using h1
    rw [h1', Bool.false_and]
    go_enter Try.func25, Try.ntmps25
    go_wp2
    go_ret
    exact ⟨rfl, rfl⟩

theorem not_pre {c : Bool} (h : c = false) : ¬ ((true : Bool) = false ∨ c = true) := by simp [h]

/-- What next tells. -/
def relR (x : Int × Int) (p : Int) : Int := if x.1 = 0 ∨ x.1 = 3 then 20 else if (if x.1 = 4 ∨ x.1 = 5 then !ptyB p else p != 0) = true then 1 else if x.2 ≠ p then 21 else 0
def elsR (r : Rw) (x : Int × Int) (p : Int) : (Int × Int) × Int := if r.ok = false ∨ (if r.names then !ptyB p else p != 0) = true then ((0, 0), 1) else if x.1 ≠ r.from_ then ((0, 0), 20) else if r.of_ = true ∧ x.2 ≠ p then ((0, 0), 21) else ((r.to, if r.to = 2 ∨ r.to = 6 then 0 else p), 0)
def nextR (n : Int) (x : Int × Int) (frame act p : Int) : (Int × Int) × Int := if frame < 0 ∨ n ≤ frame then ((0, 0), 2) else if act = 9 then ((0, 0), relR x p) else elsR (rowR act) x p

set_option maxHeartbeats 4000000 in
theorem next_any (rb B g n : Nat) (ps : List (Int × Int)) (frame act p : Int) (x : Int × Int) (w : World) (h : QAt w rb B g n ps) (hx : ∀ i : Nat, (i : Int) = frame → i < n → ps[i]? = some x) :
    Calls Try.prog 21 #[.pointer (some ⟨rb, 0, none⟩), .int .i64 frame, .int .i64 act, .int .i64 p] w fun e w' => e = .returned (.tuple #[.agg #[.int .i64 (nextR n x frame act p).1.1, .int .i64 (nextR n x frame act p).1.2], .int .i64 (nextR n x frame act p).2]) ∧ Below w.heap.size w w' := by
  have hw0 := h.below ((Below.refl w.heap.size w).alloc (Nat.le_refl _) (.cells #[.int .i64 0, .int .i64 0] 36))
  have c0 := h.c0
  have hlt := h.blk.lt
  have HR : Hid (∀ W, _) := Lib.hid (fun W => row_any act W)
  have HP : Hid (∀ W, _) := Lib.hid (fun W => party_any p W)
  by_cases h1 : frame < 0
  · have HF := Lib.hid (show nextR n x frame act p = ((0, 0), 2) by unfold nextR; rw [if_pos (.inl h1)])
    clear h hx hw0
    go_enter Try.func21, Try.ntmps21
    go_wp2
    exact bodyPost_ret (v := .tuple #[.agg #[.int .i64 0, .int .i64 0], .int .i64 2]) (by simp [results, Try.results21, go_sem]) rfl ⟨by rw [HF.out], by first | exact (Below.refl _ _).alloc (Nat.le_refl _) _ | exact ((Below.refl _ _).alloc (Nat.le_refl _) _).alloc (by simp) _⟩
  by_cases h2 : (n : Int) ≤ frame
  · have HF := Lib.hid (show nextR n x frame act p = ((0, 0), 2) by unfold nextR; rw [if_pos (.inr h2)])
    clear h hx hw0
    go_enter Try.func21, Try.ntmps21
    go_wp2
    exact bodyPost_ret (v := .tuple #[.agg #[.int .i64 0, .int .i64 0], .int .i64 2]) (by simp [results, Try.results21, go_sem]) rfl ⟨by rw [HF.out], by first | exact (Below.refl _ _).alloc (Nat.le_refl _) _ | exact ((Below.refl _ _).alloc (Nat.le_refl _) _).alloc (by simp) _⟩
  obtain ⟨i, hi⟩ : ∃ i : Nat, (i : Int) = frame := ⟨frame.toNat, by omega⟩
  have hil : i < n := by omega
  have hxi := hx i hi hil
  have d0 := (own_cell (q := 0) enC_len hw0.own hxi (by decide)).trans (show _ = some (.int .i64 x.1) from rfl)
  have d1 := (own_cell (q := 1) enC_len hw0.own hxi (by decide)).trans (show _ = some (.int .i64 x.2) from rfl)
  rw [Nat.add_zero] at d0
  have hN : frame.toNat = i := by omega
  have hfr : 0 ≤ frame := by omega
  have hfn : frame < (n : Int) := by omega
  have hnx : nextR n x frame act p = if act = 9 then ((0, 0), relR x p) else elsR (rowR act) x p := by unfold nextR; rw [if_neg (by omega)]
  rw [hnx]
  clear h hx hw0 hi hil hxi hnx h1 h2
  obtain ⟨s, q⟩ := x
  simp only at d0 d1
  by_cases h9 : act = 9
  · subst h9
    rw [if_pos rfl]
    clear HR
    by_cases z1 : s = 0
    · subst z1
      have HF := Lib.hid (show relR (0, q) p = 20 by unfold relR; rw [if_pos (.inl rfl)])
      go_enter Try.func21, Try.ntmps21
      go_wp2
      exact bodyPost_ret (v := .tuple #[.agg #[.int .i64 0, .int .i64 0], .int .i64 20]) (by simp [results, Try.results21, go_sem]) rfl ⟨by rw [HF.out], by first | exact (Below.refl _ _).alloc (Nat.le_refl _) _ | exact ((Below.refl _ _).alloc (Nat.le_refl _) _).alloc (by simp) _⟩
    by_cases z2 : s = 3
    · subst z2
      have HF := Lib.hid (show relR (3, q) p = 20 by unfold relR; rw [if_pos (.inr rfl)])
      go_enter Try.func21, Try.ntmps21
      go_wp2
      exact bodyPost_ret (v := .tuple #[.agg #[.int .i64 0, .int .i64 0], .int .i64 20]) (by simp [results, Try.results21, go_sem]) rfl ⟨by rw [HF.out], by first | exact (Below.refl _ _).alloc (Nat.le_refl _) _ | exact ((Below.refl _ _).alloc (Nat.le_refl _) _).alloc (by simp) _⟩
    have y1 : (s == 0) = false := by simpa using z1
    have y2 : (s == 3) = false := by simpa using z2
    by_cases z3 : s = 4 ∨ s = 5
    · cases hp : ptyB p
      · have HF := Lib.hid (show relR (s, q) p = 1 by unfold relR; rw [if_neg (by simp; omega), if_pos z3, hp]; rfl)
        rw [hp] at HP
        clear z1 z2
        rcases z3 with rfl | rfl
        · go_enter Try.func21, Try.ntmps21
          go_wp2_with (go_at_call 25; refine (HP.out _).mono ?_; rintro e w' ⟨rfl, rfl⟩)
          exact bodyPost_ret (v := .tuple #[.agg #[.int .i64 0, .int .i64 0], .int .i64 1]) (by simp [results, Try.results21, go_sem]) rfl ⟨by rw [HF.out], ((Below.refl _ _).alloc (Nat.le_refl _) _).alloc (by simp) _⟩
        · go_enter Try.func21, Try.ntmps21
          go_wp2_with (go_at_call 25; refine (HP.out _).mono ?_; rintro e w' ⟨rfl, rfl⟩)
          exact bodyPost_ret (v := .tuple #[.agg #[.int .i64 0, .int .i64 0], .int .i64 1]) (by simp [results, Try.results21, go_sem]) rfl ⟨by rw [HF.out], ((Below.refl _ _).alloc (Nat.le_refl _) _).alloc (by simp) _⟩
      · by_cases z4 : q = p
        · subst z4
          have HF := Lib.hid (show relR (s, q) q = 0 by unfold relR; rw [if_neg (by simp; omega), if_pos z3, hp]; simp)
          rw [hp] at HP
          clear z1 z2
          rcases z3 with rfl | rfl
          · go_enter Try.func21, Try.ntmps21
            go_wp2_with (go_at_call 25; refine (HP.out _).mono ?_; rintro e w' ⟨rfl, rfl⟩)
            exact bodyPost_ret (v := .tuple #[.agg #[.int .i64 0, .int .i64 0], .int .i64 0]) (by simp [results, Try.results21, go_sem]) rfl ⟨by rw [HF.out], ((Below.refl _ _).alloc (Nat.le_refl _) _).alloc (by simp) _⟩
          · go_enter Try.func21, Try.ntmps21
            go_wp2_with (go_at_call 25; refine (HP.out _).mono ?_; rintro e w' ⟨rfl, rfl⟩)
            exact bodyPost_ret (v := .tuple #[.agg #[.int .i64 0, .int .i64 0], .int .i64 0]) (by simp [results, Try.results21, go_sem]) rfl ⟨by rw [HF.out], ((Below.refl _ _).alloc (Nat.le_refl _) _).alloc (by simp) _⟩
        · have HF := Lib.hid (show relR (s, q) p = 21 by unfold relR; rw [if_neg (by simp; omega), if_pos z3, hp]; simp [z4])
          have y4 : (q == p) = false := by simpa using z4
          rw [hp] at HP
          clear z1 z2 z4
          rcases z3 with rfl | rfl
          · go_enter Try.func21, Try.ntmps21
            go_wp2_with (go_at_call 25; refine (HP.out _).mono ?_; rintro e w' ⟨rfl, rfl⟩)
            exact bodyPost_ret (v := .tuple #[.agg #[.int .i64 0, .int .i64 0], .int .i64 21]) (by simp [results, Try.results21, go_sem]) rfl ⟨by rw [HF.out], ((Below.refl _ _).alloc (Nat.le_refl _) _).alloc (by simp) _⟩
          · go_enter Try.func21, Try.ntmps21
            go_wp2_with (go_at_call 25; refine (HP.out _).mono ?_; rintro e w' ⟨rfl, rfl⟩)
            exact bodyPost_ret (v := .tuple #[.agg #[.int .i64 0, .int .i64 0], .int .i64 21]) (by simp [results, Try.results21, go_sem]) rfl ⟨by rw [HF.out], ((Below.refl _ _).alloc (Nat.le_refl _) _).alloc (by simp) _⟩
    · have y3 : (s == 4) = false := by simp; omega
      have y5 : (s == 5) = false := by simp; omega
      by_cases z5 : p = 0
      · subst z5
        by_cases z4 : q = 0
        · subst z4
          have HF := Lib.hid (show relR (s, 0) 0 = 0 by unfold relR; rw [if_neg (by simp; omega), if_neg z3]; rfl)
          clear z1 z2 z3
          go_enter Try.func21, Try.ntmps21
          go_wp2_with (go_at_call 25; refine (HP.out _).mono ?_; rintro e w' ⟨rfl, rfl⟩)
          exact bodyPost_ret (v := .tuple #[.agg #[.int .i64 0, .int .i64 0], .int .i64 0]) (by simp [results, Try.results21, go_sem]) rfl ⟨by rw [HF.out], ((Below.refl _ _).alloc (Nat.le_refl _) _).alloc (by simp) _⟩
        · have HF := Lib.hid (show relR (s, q) 0 = 21 by unfold relR; rw [if_neg (by simp; omega), if_neg z3]; simp [z4])
          have y4 : (q == 0) = false := by simpa using z4
          clear z1 z2 z3 z4
          go_enter Try.func21, Try.ntmps21
          go_wp2_with (go_at_call 25; refine (HP.out _).mono ?_; rintro e w' ⟨rfl, rfl⟩)
          exact bodyPost_ret (v := .tuple #[.agg #[.int .i64 0, .int .i64 0], .int .i64 21]) (by simp [results, Try.results21, go_sem]) rfl ⟨by rw [HF.out], ((Below.refl _ _).alloc (Nat.le_refl _) _).alloc (by simp) _⟩
      · have HF := Lib.hid (show relR (s, q) p = 1 by unfold relR; rw [if_neg (by simp; omega), if_neg z3]; simp [z5])
        have y6 : (p == 0) = false := by simpa using z5
        clear z1 z2 z3 z5
        go_enter Try.func21, Try.ntmps21
        go_wp2_with (go_at_call 25; refine (HP.out _).mono ?_; rintro e w' ⟨rfl, rfl⟩)
        exact bodyPost_ret (v := .tuple #[.agg #[.int .i64 0, .int .i64 0], .int .i64 1]) (by simp [results, Try.results21, go_sem]) rfl ⟨by rw [HF.out], ((Below.refl _ _).alloc (Nat.le_refl _) _).alloc (by simp) _⟩
  · have h9' : (act == 9) = false := by simpa using h9
    rw [if_neg h9]
    clear h9
    generalize rowR act = r at *
    obtain ⟨fr, to, nm, of_, ok⟩ := r
    cases ok
    · have HF := Lib.hid (show elsR ⟨fr, to, nm, of_, false⟩ (s, q) p = ((0, 0), 1) by unfold elsR; rw [if_pos (.inl rfl)])
      go_enter Try.func21, Try.ntmps21
      go_wp2_with (first | (go_at_call 26; refine (HR.out _).mono ?_; rintro e w' ⟨rfl, rfl⟩) | (go_at_call 25; refine (HP.out _).mono ?_; rintro e w' ⟨rfl, rfl⟩))
      exact bodyPost_ret (v := .tuple #[.agg #[.int .i64 0, .int .i64 0], .int .i64 1]) (by simp [results, Try.results21, go_sem]) rfl ⟨by rw [HF.out], by first | exact ((Below.refl _ _).alloc (Nat.le_refl _) _).alloc (by simp) _ | exact (((Below.refl _ _).alloc (Nat.le_refl _) _).alloc (by simp) _).alloc (by simp; omega) _⟩
    cases nm
    · by_cases z5 : p = 0
      · subst z5
        have hpre : (if false = true then !ptyB 0 else (0 : Int) != 0) = false := rfl
        by_cases z6 : s = fr
        · subst z6
          cases of_
          · by_cases z8 : to = 2
            · subst z8
              have HF := Lib.hid (show elsR ⟨s, 2, false, false, true⟩ (s, q) 0 = ((2, 0), 0) by unfold elsR; rw [if_neg (not_pre hpre), if_neg (by simp), if_neg (by simp)]; rfl)
              clear hpre
              go_enter Try.func21, Try.ntmps21
              go_wp2_with (first | (go_at_call 26; refine (HR.out _).mono ?_; rintro e w' ⟨rfl, rfl⟩) | (go_at_call 25; refine (HP.out _).mono ?_; rintro e w' ⟨rfl, rfl⟩))
              exact bodyPost_ret (v := .tuple #[.agg #[.int .i64 2, .int .i64 0], .int .i64 0]) (by simp [results, Try.results21, go_sem]) rfl ⟨by rw [HF.out], by first | exact ((Below.refl _ _).alloc (Nat.le_refl _) _).alloc (by simp) _ | exact (((Below.refl _ _).alloc (Nat.le_refl _) _).alloc (by simp) _).alloc (by simp; omega) _⟩
            by_cases z9 : to = 6
            · subst z9
              have HF := Lib.hid (show elsR ⟨s, 6, false, false, true⟩ (s, q) 0 = ((6, 0), 0) by unfold elsR; rw [if_neg (not_pre hpre), if_neg (by simp), if_neg (by simp)]; rfl)
              clear hpre
              go_enter Try.func21, Try.ntmps21
              go_wp2_with (first | (go_at_call 26; refine (HR.out _).mono ?_; rintro e w' ⟨rfl, rfl⟩) | (go_at_call 25; refine (HP.out _).mono ?_; rintro e w' ⟨rfl, rfl⟩))
              exact bodyPost_ret (v := .tuple #[.agg #[.int .i64 6, .int .i64 0], .int .i64 0]) (by simp [results, Try.results21, go_sem]) rfl ⟨by rw [HF.out], by first | exact ((Below.refl _ _).alloc (Nat.le_refl _) _).alloc (by simp) _ | exact (((Below.refl _ _).alloc (Nat.le_refl _) _).alloc (by simp) _).alloc (by simp; omega) _⟩
            have HF := Lib.hid (show elsR ⟨s, to, false, false, true⟩ (s, q) 0 = ((to, 0), 0) by unfold elsR; rw [if_neg (not_pre hpre), if_neg (by simp), if_neg (by simp)]; simp only; rw [if_neg (by omega)])
            have y7 : (to == 2) = false := by simpa using z8
            have y8 : (to == 6) = false := by simpa using z9
            clear hpre z8 z9
            go_enter Try.func21, Try.ntmps21
            go_wp2_with (first | (go_at_call 26; refine (HR.out _).mono ?_; rintro e w' ⟨rfl, rfl⟩) | (go_at_call 25; refine (HP.out _).mono ?_; rintro e w' ⟨rfl, rfl⟩))
            exact bodyPost_ret (v := .tuple #[.agg #[.int .i64 to, .int .i64 0], .int .i64 0]) (by simp [results, Try.results21, go_sem]) rfl ⟨by rw [HF.out], by first | exact ((Below.refl _ _).alloc (Nat.le_refl _) _).alloc (by simp) _ | exact (((Below.refl _ _).alloc (Nat.le_refl _) _).alloc (by simp) _).alloc (by simp; omega) _⟩
          · by_cases z7 : q = 0
            · subst z7
              by_cases z8 : to = 2
              · subst z8
                have HF := Lib.hid (show elsR ⟨s, 2, false, true, true⟩ (s, 0) 0 = ((2, 0), 0) by unfold elsR; rw [if_neg (not_pre hpre), if_neg (by simp), if_neg (by simp)]; rfl)
                clear hpre
                go_enter Try.func21, Try.ntmps21
                go_wp2_with (first | (go_at_call 26; refine (HR.out _).mono ?_; rintro e w' ⟨rfl, rfl⟩) | (go_at_call 25; refine (HP.out _).mono ?_; rintro e w' ⟨rfl, rfl⟩))
                exact bodyPost_ret (v := .tuple #[.agg #[.int .i64 2, .int .i64 0], .int .i64 0]) (by simp [results, Try.results21, go_sem]) rfl ⟨by rw [HF.out], by first | exact ((Below.refl _ _).alloc (Nat.le_refl _) _).alloc (by simp) _ | exact (((Below.refl _ _).alloc (Nat.le_refl _) _).alloc (by simp) _).alloc (by simp; omega) _⟩
              by_cases z9 : to = 6
              · subst z9
                have HF := Lib.hid (show elsR ⟨s, 6, false, true, true⟩ (s, 0) 0 = ((6, 0), 0) by unfold elsR; rw [if_neg (not_pre hpre), if_neg (by simp), if_neg (by simp)]; rfl)
                clear hpre
                go_enter Try.func21, Try.ntmps21
                go_wp2_with (first | (go_at_call 26; refine (HR.out _).mono ?_; rintro e w' ⟨rfl, rfl⟩) | (go_at_call 25; refine (HP.out _).mono ?_; rintro e w' ⟨rfl, rfl⟩))
                exact bodyPost_ret (v := .tuple #[.agg #[.int .i64 6, .int .i64 0], .int .i64 0]) (by simp [results, Try.results21, go_sem]) rfl ⟨by rw [HF.out], by first | exact ((Below.refl _ _).alloc (Nat.le_refl _) _).alloc (by simp) _ | exact (((Below.refl _ _).alloc (Nat.le_refl _) _).alloc (by simp) _).alloc (by simp; omega) _⟩
              have HF := Lib.hid (show elsR ⟨s, to, false, true, true⟩ (s, 0) 0 = ((to, 0), 0) by unfold elsR; rw [if_neg (not_pre hpre), if_neg (by simp), if_neg (by simp)]; simp only; rw [if_neg (by omega)])
              have y7 : (to == 2) = false := by simpa using z8
              have y8 : (to == 6) = false := by simpa using z9
              clear hpre z8 z9
              go_enter Try.func21, Try.ntmps21
              go_wp2_with (first | (go_at_call 26; refine (HR.out _).mono ?_; rintro e w' ⟨rfl, rfl⟩) | (go_at_call 25; refine (HP.out _).mono ?_; rintro e w' ⟨rfl, rfl⟩))
              exact bodyPost_ret (v := .tuple #[.agg #[.int .i64 to, .int .i64 0], .int .i64 0]) (by simp [results, Try.results21, go_sem]) rfl ⟨by rw [HF.out], by first | exact ((Below.refl _ _).alloc (Nat.le_refl _) _).alloc (by simp) _ | exact (((Below.refl _ _).alloc (Nat.le_refl _) _).alloc (by simp) _).alloc (by simp; omega) _⟩
            · have HF := Lib.hid (show elsR ⟨s, to, false, true, true⟩ (s, q) 0 = ((0, 0), 21) by unfold elsR; rw [if_neg (not_pre hpre), if_neg (by simp), if_pos ⟨rfl, z7⟩])
              have y7 : (q == 0) = false := by simpa using z7
              have y8 : (q != 0) = true := by simpa using z7
              clear z7 hpre
              go_enter Try.func21, Try.ntmps21
              go_wp2_with (first | (go_at_call 26; refine (HR.out _).mono ?_; rintro e w' ⟨rfl, rfl⟩) | (go_at_call 25; refine (HP.out _).mono ?_; rintro e w' ⟨rfl, rfl⟩))
              exact bodyPost_ret (v := .tuple #[.agg #[.int .i64 0, .int .i64 0], .int .i64 21]) (by simp [results, Try.results21, go_sem]) rfl ⟨by rw [HF.out], by first | exact ((Below.refl _ _).alloc (Nat.le_refl _) _).alloc (by simp) _ | exact (((Below.refl _ _).alloc (Nat.le_refl _) _).alloc (by simp) _).alloc (by simp; omega) _⟩
        · have HF := Lib.hid (show elsR ⟨fr, to, false, of_, true⟩ (s, q) 0 = ((0, 0), 20) by unfold elsR; rw [if_neg (not_pre hpre), if_pos z6])
          have y7 : (s == fr) = false := by simpa using z6
          have y8 : (s != fr) = true := by simpa using z6
          clear z6 hpre
          go_enter Try.func21, Try.ntmps21
          go_wp2_with (first | (go_at_call 26; refine (HR.out _).mono ?_; rintro e w' ⟨rfl, rfl⟩) | (go_at_call 25; refine (HP.out _).mono ?_; rintro e w' ⟨rfl, rfl⟩))
          exact bodyPost_ret (v := .tuple #[.agg #[.int .i64 0, .int .i64 0], .int .i64 20]) (by simp [results, Try.results21, go_sem]) rfl ⟨by rw [HF.out], by first | exact ((Below.refl _ _).alloc (Nat.le_refl _) _).alloc (by simp) _ | exact (((Below.refl _ _).alloc (Nat.le_refl _) _).alloc (by simp) _).alloc (by simp; omega) _⟩
      · have HF := Lib.hid (show elsR ⟨fr, to, false, of_, true⟩ (s, q) p = ((0, 0), 1) by unfold elsR; rw [if_pos (.inr (by simpa using z5))])
        have y6 : (p == 0) = false := by simpa using z5
        have y7 : (p != 0) = true := by simpa using z5
        clear z5
        go_enter Try.func21, Try.ntmps21
        go_wp2_with (first | (go_at_call 26; refine (HR.out _).mono ?_; rintro e w' ⟨rfl, rfl⟩) | (go_at_call 25; refine (HP.out _).mono ?_; rintro e w' ⟨rfl, rfl⟩))
        exact bodyPost_ret (v := .tuple #[.agg #[.int .i64 0, .int .i64 0], .int .i64 1]) (by simp [results, Try.results21, go_sem]) rfl ⟨by rw [HF.out], by first | exact ((Below.refl _ _).alloc (Nat.le_refl _) _).alloc (by simp) _ | exact (((Below.refl _ _).alloc (Nat.le_refl _) _).alloc (by simp) _).alloc (by simp; omega) _⟩
    · cases hp : ptyB p
      · have HF := Lib.hid (show elsR ⟨fr, to, true, of_, true⟩ (s, q) p = ((0, 0), 1) by unfold elsR; rw [if_pos (.inr (by simp [hp]))])
        rw [hp] at HP
        go_enter Try.func21, Try.ntmps21
        go_wp2_with (first | (go_at_call 26; refine (HR.out _).mono ?_; rintro e w' ⟨rfl, rfl⟩) | (go_at_call 25; refine (HP.out _).mono ?_; rintro e w' ⟨rfl, rfl⟩))
        exact bodyPost_ret (v := .tuple #[.agg #[.int .i64 0, .int .i64 0], .int .i64 1]) (by simp [results, Try.results21, go_sem]) rfl ⟨by rw [HF.out], by first | exact ((Below.refl _ _).alloc (Nat.le_refl _) _).alloc (by simp) _ | exact (((Below.refl _ _).alloc (Nat.le_refl _) _).alloc (by simp) _).alloc (by simp; omega) _⟩
      · have hpre : (if true = true then !ptyB p else p != 0) = false := by simp [hp]
        rw [hp] at HP
        by_cases z6 : s = fr
        · subst z6
          cases of_
          · by_cases z8 : to = 2
            · subst z8
              have HF := Lib.hid (show elsR ⟨s, 2, true, false, true⟩ (s, q) p = ((2, 0), 0) by unfold elsR; rw [if_neg (not_pre hpre), if_neg (by simp), if_neg (by simp)]; rfl)
              clear hpre
              go_enter Try.func21, Try.ntmps21
              go_wp2_with (first | (go_at_call 26; refine (HR.out _).mono ?_; rintro e w' ⟨rfl, rfl⟩) | (go_at_call 25; refine (HP.out _).mono ?_; rintro e w' ⟨rfl, rfl⟩))
              exact bodyPost_ret (v := .tuple #[.agg #[.int .i64 2, .int .i64 0], .int .i64 0]) (by simp [results, Try.results21, go_sem]) rfl ⟨by rw [HF.out], by first | exact ((Below.refl _ _).alloc (Nat.le_refl _) _).alloc (by simp) _ | exact (((Below.refl _ _).alloc (Nat.le_refl _) _).alloc (by simp) _).alloc (by simp; omega) _⟩
            by_cases z9 : to = 6
            · subst z9
              have HF := Lib.hid (show elsR ⟨s, 6, true, false, true⟩ (s, q) p = ((6, 0), 0) by unfold elsR; rw [if_neg (not_pre hpre), if_neg (by simp), if_neg (by simp)]; rfl)
              clear hpre
              go_enter Try.func21, Try.ntmps21
              go_wp2_with (first | (go_at_call 26; refine (HR.out _).mono ?_; rintro e w' ⟨rfl, rfl⟩) | (go_at_call 25; refine (HP.out _).mono ?_; rintro e w' ⟨rfl, rfl⟩))
              exact bodyPost_ret (v := .tuple #[.agg #[.int .i64 6, .int .i64 0], .int .i64 0]) (by simp [results, Try.results21, go_sem]) rfl ⟨by rw [HF.out], by first | exact ((Below.refl _ _).alloc (Nat.le_refl _) _).alloc (by simp) _ | exact (((Below.refl _ _).alloc (Nat.le_refl _) _).alloc (by simp) _).alloc (by simp; omega) _⟩
            have HF := Lib.hid (show elsR ⟨s, to, true, false, true⟩ (s, q) p = ((to, p), 0) by unfold elsR; rw [if_neg (not_pre hpre), if_neg (by simp), if_neg (by simp)]; simp only; rw [if_neg (by omega)])
            have y7 : (to == 2) = false := by simpa using z8
            have y8 : (to == 6) = false := by simpa using z9
            clear hpre z8 z9
            go_enter Try.func21, Try.ntmps21
            go_wp2_with (first | (go_at_call 26; refine (HR.out _).mono ?_; rintro e w' ⟨rfl, rfl⟩) | (go_at_call 25; refine (HP.out _).mono ?_; rintro e w' ⟨rfl, rfl⟩))
            exact bodyPost_ret (v := .tuple #[.agg #[.int .i64 to, .int .i64 p], .int .i64 0]) (by simp [results, Try.results21, go_sem]) rfl ⟨by rw [HF.out], by first | exact ((Below.refl _ _).alloc (Nat.le_refl _) _).alloc (by simp) _ | exact (((Below.refl _ _).alloc (Nat.le_refl _) _).alloc (by simp) _).alloc (by simp; omega) _⟩
          · by_cases z7 : q = p
            · subst z7
              by_cases z8 : to = 2
              · subst z8
                have HF := Lib.hid (show elsR ⟨s, 2, true, true, true⟩ (s, q) q = ((2, 0), 0) by unfold elsR; rw [if_neg (not_pre hpre), if_neg (by simp), if_neg (by simp)]; rfl)
                clear hpre
                go_enter Try.func21, Try.ntmps21
                go_wp2_with (first | (go_at_call 26; refine (HR.out _).mono ?_; rintro e w' ⟨rfl, rfl⟩) | (go_at_call 25; refine (HP.out _).mono ?_; rintro e w' ⟨rfl, rfl⟩))
                exact bodyPost_ret (v := .tuple #[.agg #[.int .i64 2, .int .i64 0], .int .i64 0]) (by simp [results, Try.results21, go_sem]) rfl ⟨by rw [HF.out], by first | exact ((Below.refl _ _).alloc (Nat.le_refl _) _).alloc (by simp) _ | exact (((Below.refl _ _).alloc (Nat.le_refl _) _).alloc (by simp) _).alloc (by simp; omega) _⟩
              by_cases z9 : to = 6
              · subst z9
                have HF := Lib.hid (show elsR ⟨s, 6, true, true, true⟩ (s, q) q = ((6, 0), 0) by unfold elsR; rw [if_neg (not_pre hpre), if_neg (by simp), if_neg (by simp)]; rfl)
                clear hpre
                go_enter Try.func21, Try.ntmps21
                go_wp2_with (first | (go_at_call 26; refine (HR.out _).mono ?_; rintro e w' ⟨rfl, rfl⟩) | (go_at_call 25; refine (HP.out _).mono ?_; rintro e w' ⟨rfl, rfl⟩))
                exact bodyPost_ret (v := .tuple #[.agg #[.int .i64 6, .int .i64 0], .int .i64 0]) (by simp [results, Try.results21, go_sem]) rfl ⟨by rw [HF.out], by first | exact ((Below.refl _ _).alloc (Nat.le_refl _) _).alloc (by simp) _ | exact (((Below.refl _ _).alloc (Nat.le_refl _) _).alloc (by simp) _).alloc (by simp; omega) _⟩
              have HF := Lib.hid (show elsR ⟨s, to, true, true, true⟩ (s, q) q = ((to, q), 0) by unfold elsR; rw [if_neg (not_pre hpre), if_neg (by simp), if_neg (by simp)]; simp only; rw [if_neg (by omega)])
              have y7 : (to == 2) = false := by simpa using z8
              have y8 : (to == 6) = false := by simpa using z9
              clear hpre z8 z9
              go_enter Try.func21, Try.ntmps21
              go_wp2_with (first | (go_at_call 26; refine (HR.out _).mono ?_; rintro e w' ⟨rfl, rfl⟩) | (go_at_call 25; refine (HP.out _).mono ?_; rintro e w' ⟨rfl, rfl⟩))
              exact bodyPost_ret (v := .tuple #[.agg #[.int .i64 to, .int .i64 q], .int .i64 0]) (by simp [results, Try.results21, go_sem]) rfl ⟨by rw [HF.out], by first | exact ((Below.refl _ _).alloc (Nat.le_refl _) _).alloc (by simp) _ | exact (((Below.refl _ _).alloc (Nat.le_refl _) _).alloc (by simp) _).alloc (by simp; omega) _⟩
            · have HF := Lib.hid (show elsR ⟨s, to, true, true, true⟩ (s, q) p = ((0, 0), 21) by unfold elsR; rw [if_neg (not_pre hpre), if_neg (by simp), if_pos ⟨rfl, z7⟩])
              have y7 : (q == p) = false := by simpa using z7
              have y8 : (q != p) = true := by simpa using z7
              clear z7 hpre
              go_enter Try.func21, Try.ntmps21
              go_wp2_with (first | (go_at_call 26; refine (HR.out _).mono ?_; rintro e w' ⟨rfl, rfl⟩) | (go_at_call 25; refine (HP.out _).mono ?_; rintro e w' ⟨rfl, rfl⟩))
              exact bodyPost_ret (v := .tuple #[.agg #[.int .i64 0, .int .i64 0], .int .i64 21]) (by simp [results, Try.results21, go_sem]) rfl ⟨by rw [HF.out], by first | exact ((Below.refl _ _).alloc (Nat.le_refl _) _).alloc (by simp) _ | exact (((Below.refl _ _).alloc (Nat.le_refl _) _).alloc (by simp) _).alloc (by simp; omega) _⟩
        · have HF := Lib.hid (show elsR ⟨fr, to, true, of_, true⟩ (s, q) p = ((0, 0), 20) by unfold elsR; rw [if_neg (not_pre hpre), if_pos z6])
          have y7 : (s == fr) = false := by simpa using z6
          have y8 : (s != fr) = true := by simpa using z6
          clear z6 hpre
          go_enter Try.func21, Try.ntmps21
          go_wp2_with (first | (go_at_call 26; refine (HR.out _).mono ?_; rintro e w' ⟨rfl, rfl⟩) | (go_at_call 25; refine (HP.out _).mono ?_; rintro e w' ⟨rfl, rfl⟩))
          exact bodyPost_ret (v := .tuple #[.agg #[.int .i64 0, .int .i64 0], .int .i64 20]) (by simp [results, Try.results21, go_sem]) rfl ⟨by rw [HF.out], by first | exact ((Below.refl _ _).alloc (Nat.le_refl _) _).alloc (by simp) _ | exact (((Below.refl _ _).alloc (Nat.le_refl _) _).alloc (by simp) _).alloc (by simp; omega) _⟩
end Go.Proofs.Ytibklcjjdnhkdaa
