/- The document's own answer for package rmap: uses in a list; at, Has. -/
import Derived.Test.YtdnfjpelhiniaaaRmk
import Derived.Test.YtdnfjpelhiniaaaCut
namespace Go.Proofs.Ytdnfjpelhiniaaa
open Go.RowKit Mf

abbrev Us := Int × Plc
def uc (x : Us) : List Value := [.int .i64 x.1, .int .i64 x.2.1.1, .int .u64 x.2.1.2]
theorem uc_len (x : Us) : (uc x).length = 3 := rfl
abbrev URow (w : World) (B : Nat) (v : Value) (xs : List Us) : Prop := w.ownsRow B 54 3 v xs.length (xs.flatMap uc)
/-- The reference in memory. -/
structure RU (w : World) (c B : Nat) (v : Value) (xs : List Us) : Prop where
  blk : Blk w c 28 #[v]
  own : URow w B v xs
  lt : c < B
section
variable {w w' : World} {c B : Nat} {v : Value} {xs : List Us} {S : Nat → Prop}
theorem RU.below (h : RU w c B v xs) (hb : Below w.heap.size w w') : RU w' c B v xs := ⟨h.blk.below hb h.blk.lt, own_below h.own hb, h.lt⟩
theorem RU.drewN (h : RU w c B v xs) (q : Nat) : RU (w.drewN q) c B v xs := h.below (below_drewN (Below.refl _ _) q)
theorem RU.c0 (h : RU w c B v xs) : w.cell? ⟨c, 0, none⟩ = some v := (h.blk.cell 0).trans rfl
theorem own_apart {base size n : Nat} {e : TypeId} {zs : List Value} (h : w.ownsRow base e size v n zs) (ho : Only S w w') (hS : ∀ g, v.ownBlock = some g → ¬ S g) : w'.ownsRow base e size v n zs := by
  obtain ⟨h1, h2⟩ := h
  refine ⟨h1, ?_⟩
  rcases h2 with h2 | ⟨g, cap, cur, e1, e2, e3, e4⟩
  · exact .inl h2
  · have hlt : g < w.heap.size := (Array.getElem?_eq_some_iff.1 e3).1
    exact .inr ⟨g, cap, cur, e1, e2, (ho.block g hlt (hS g (by rw [e1]; rfl))).trans e3, e4⟩
theorem RU.apart (h : RU w c B v xs) (ho : Only S w w') (h1 : ¬ S c) (h2 : ∀ g, v.ownBlock = some g → ¬ S g) : RU w' c B v xs := ⟨h.blk.only ho h1, own_apart h.own ho h2, h.lt⟩
theorem URow.form {w : World} {B : Nat} {v : Value} {xs : List Us} (h : URow w B v xs) : ∃ A cc, v = .slice A xs.length cc := by
  rcases own_slice3 h with ⟨rfl, h0⟩ | ⟨g, cc, rfl, _⟩
  · exact ⟨none, 0, by rw [h0]⟩
  · exact ⟨_, _, rfl⟩
theorem URow.cells {w : World} {B : Nat} {A : Option Addr} {n cc : Nat} {xs : List Us} (h : URow w B (.slice A n cc) xs) {k : Nat} {x : Us} (hx : xs[k]? = some x) : ∃ g, A = some ⟨g, 0, none⟩ ∧ w.cell? ⟨g, k * 3, none⟩ = some (.int .i64 x.1) ∧ w.cell? ⟨g, k * 3 + 1, none⟩ = some (.int .i64 x.2.1.1) ∧ w.cell? ⟨g, k * 3 + 1 + 1, none⟩ = some (.int .u64 x.2.1.2) := by
  have hk := (List.getElem?_eq_some_iff.1 hx).1
  rcases own_slice3 h with ⟨h1, h0⟩ | ⟨g, cc', h1, _⟩
  · omega
  · injection h1 with h1 h2 h3
    subst h1 h2 h3
    exact ⟨g, rfl, (own_cell (q := 0) uc_len h hx (by decide)).trans rfl, (own_cell (q := 1) uc_len h hx (by decide)).trans rfl, (own_cell (q := 2) uc_len h hx (by decide)).trans rfl⟩
end

def AtR (xs : List Us) (x : Us) (z : Int) : Prop := (∃ k : Nat, z = k ∧ xs[k]? = some x) ∨ (z = -1 ∧ x ∉ xs)
def AtP (w : World) (xs : List Us) (x : Us) (n : Nat) (v : Value) (wr : World) : Prop := ∃ k : Nat, v = .int .i64 k ∧ k ≤ n ∧ (∀ j, j < k → xs[j]? ≠ some x) ∧ ∃ q, wr = w.drewN q

set_option maxRecDepth 100000 in
set_option maxHeartbeats 4000000 in
theorem ruat {w : World} {c B : Nat} {v : Value} {xs : List Us} (h : RU w c B v xs) (hn : xs.length ≤ 1000) (f : Int) (p : Plc) :
    Calls Try.prog 20 #[.pointer (some ⟨c, 0, none⟩), .int .i64 f, .agg #[.int .i64 p.1.1, .int .u64 p.1.2]] w fun e w' => ∃ z, e = .returned (.int .i64 z) ∧ AtR xs (f, p) z ∧ Below w.heap.size w w' := by
  have hb := (Below.refl w.heap.size w).alloc (Nat.le_refl _) (.cells #[.int .i64 p.1.1, .int .u64 p.1.2] 31)
  have HB := Lib.hid hb
  have HR := Lib.hid (h.below hb)
  have e0 := ((Blk.new w 31 #[.int .i64 p.1.1, .int .u64 p.1.2]).cell 0).trans rfl
  have e1 := ((Blk.new w 31 #[.int .i64 p.1.1, .int .u64 p.1.2]).cell 1).trans rfl
  obtain ⟨A, cc, rfl⟩ := h.own.form
  obtain ⟨n, hn1⟩ : ∃ n, xs.length = n := ⟨_, rfl⟩
  rw [hn1] at hn
  rw [hn1] at HR
  have HN := Lib.hid hn1
  clear h hb hn1
  obtain ⟨wa, hwa⟩ : ∃ wa, w.alloc (.cells #[.int .i64 p.1.1, .int .u64 p.1.2] 31) = wa := ⟨_, rfl⟩
  rw [hwa] at e0 e1 HR HB
  have HWA := Lib.hid hwa
  have c0 := HR.out.c0
  clear hwa
  go_enter Try.func20, Try.ntmps20
  go_wp2_with fail
  rw [HWA.out]
  clear HWA
  go_loopw [7] (AtP wa xs (f, p) n) (fun v _ => n - cntI v)
  case atStart => exact ⟨0, rfl, Nat.zero_le _, fun j hj => by omega, 0, rfl⟩
  case round =>
    obtain ⟨k, rfl, hk, hno, q, rfl⟩ := hrel
    have HNO := Lib.hid hno
    clear hno
    by_cases hkn : k < n
    · have g1 : decide ((k : Int) < (n : Int)) = true := by simp; exact hkn
      have g1' : decide (k < n) = true := by simp; exact hkn
      have hkn2 : (k : Int) < (n : Int) := by omega
      obtain ⟨⟨f', p'⟩, hx⟩ : ∃ x, xs[k]? = some x := ⟨_, List.getElem?_eq_getElem (by rw [HN.out]; exact hkn)⟩
      obtain ⟨g, rfl, d0, d1, d2⟩ := HR.out.own.cells hx
      have HX := Lib.hid hx
      clear hx
      have d0 : wa.cell? ⟨g, k * 3, none⟩ = some (.int .i64 f') := d0
      have d1 : wa.cell? ⟨g, k * 3 + 1, none⟩ = some (.int .i64 p'.1.1) := d1
      have d2 : wa.cell? ⟨g, k * 3 + 1 + 1, none⟩ = some (.int .u64 p'.1.2) := d2
      by_cases hf : f' = f
      · have hf1 : (f' == f) = true := by simpa using hf
        have hpe : ∀ W, (binOp .eql 31 (.agg #[.int .i64 p'.1.1, .int .u64 p'.1.2]) (.agg #[.int .i64 p.1.1, .int .u64 p.1.2])).run Try.prog W = .ok (.bool (decide (p' = p))) W := fun W => by rw [place_eql, plc_beq]
        have HF := Lib.hid hf
        clear hf
        by_cases hp : p' = p
        · have hp1 : decide (p' = p) = true := by simpa using hp
          rw [hp1] at hpe
          have HP := Lib.hid hp
          clear hp hp1
          go_wp2_with fail
          go_quiet (fail)
          go_wp2
          go_ret
          exact ⟨k, rfl, .inl ⟨k, rfl, by rw [HX.out, HF.out, HP.out]⟩, below_drewN (below_drewN HB.out _) _⟩
        · have hp1 : decide (p' = p) = false := by simpa using hp
          rw [hp1] at hpe
          have HP := Lib.hid hp
          clear hp hp1
          go_wp2_with fail
          go_quiet (fail)
          go_wp2
          refine ⟨⟨k + 1, by go_num, by omega, fun j hj => ?_, _, rfl⟩, by simp [cntI]; omega⟩
          by_cases hjk : j = k
          · subst hjk; rw [HX.out]; intro e; injection e with e; injection e with e1 e2; exact HP.out e2
          · exact HNO.out j (by omega)
      · have hf1 : (f' == f) = false := by simpa using hf
        have HF := Lib.hid hf
        clear hf
        go_wp2_with fail
        go_quiet (fail)
        go_wp2
        refine ⟨⟨k + 1, by go_num, by omega, fun j hj => ?_, _, rfl⟩, by simp [cntI]; omega⟩
        by_cases hjk : j = k
        · subst hjk; rw [HX.out]; intro e; injection e with e; injection e with e1 e2; exact HF.out e1
        · exact HNO.out j (by omega)
    · obtain rfl : k = n := by omega
      have g1 : decide ((k : Int) < (k : Int)) = false := by simp
      go_wp2
      go_ret
      refine ⟨-1, rfl, .inr ⟨rfl, fun hm => ?_⟩, below_drewN HB.out _⟩
      obtain ⟨j, hj⟩ := List.mem_iff_getElem?.1 hm
      exact HNO.out j (by have := (List.getElem?_eq_some_iff.1 hj).1; have := HN.out; omega) hj

/-- The list tells the uses. -/
def USim (xs : List Us) (u : Int → Plc → Bool) : Prop := xs.Pairwise (· ≠ ·) ∧ ∀ k p, (k, p) ∈ xs ↔ u k p = true
theorem AtR.yes {xs : List Us} {u : Int → Plc → Bool} {f : Int} {p : Plc} {z : Int} (h : AtR xs (f, p) z) (hs : USim xs u) (hu : u f p = true) : ∃ k : Nat, z = k ∧ xs[k]? = some (f, p) := by
  rcases h with h | ⟨_, h⟩
  · exact h
  · exact absurd ((hs.2 f p).2 hu) h
theorem AtR.no {xs : List Us} {u : Int → Plc → Bool} {f : Int} {p : Plc} {z : Int} (h : AtR xs (f, p) z) (hs : USim xs u) (hu : u f p = false) : z = -1 := by
  rcases h with ⟨k, _, h⟩ | ⟨h, _⟩
  · have := (hs.2 f p).1 (List.mem_of_getElem? h)
    rw [hu] at this; cases this
  · exact h

set_option maxRecDepth 100000 in
set_option maxHeartbeats 2000000 in
theorem ruhas {w : World} {c B : Nat} {v : Value} {xs : List Us} {u : Int → Plc → Bool} (h : RU w c B v xs) (hs : USim xs u) (hn : xs.length ≤ 1000) (f : Int) (p : Plc) :
    Calls Try.prog 14 #[.pointer (some ⟨c, 0, none⟩), .int .i64 f, .agg #[.int .i64 p.1.1, .int .u64 p.1.2]] w fun e w' => e = .returned (.bool (u f p)) ∧ Below w.heap.size w w' := by
  have hb := (Below.refl w.heap.size w).alloc (Nat.le_refl _) (.cells #[.int .i64 p.1.1, .int .u64 p.1.2] 31)
  have HB := Lib.hid hb
  have HS := Lib.hid hs
  have C := Lib.hid (ruat (h.below hb) hn f p)
  have e0 := ((Blk.new w 31 #[.int .i64 p.1.1, .int .u64 p.1.2]).cell 0).trans rfl
  have e1 := ((Blk.new w 31 #[.int .i64 p.1.1, .int .u64 p.1.2]).cell 1).trans rfl
  clear h hb hs
  go_enter Try.func14, Try.ntmps14
  go_wp2_with fail
  refine C.out.mono ?_; rintro e w1 ⟨z, rfl, hz, hb1⟩
  have HB1 := Lib.hid (HB.out.trans (hb1.mono HB.out.size))
  cases hu : u f p
  · obtain rfl := hz.no HS.out hu
    have HU := Lib.hid hu
    clear hz hb1 hu e0 e1 C
    go_wp2
    go_ret
    exact ⟨by simp [HU.out], HB1.out⟩
  · obtain ⟨k, rfl, hk⟩ := hz.yes HS.out hu
    have g0 : decide ((k : Int) ≥ 0) = true := by simp
    have HU := Lib.hid hu
    clear hz hb1 hu hk e0 e1 C
    go_wp2
    go_ret
    exact ⟨by simp [HU.out], HB1.out⟩
end Go.Proofs.Ytdnfjpelhiniaaa
