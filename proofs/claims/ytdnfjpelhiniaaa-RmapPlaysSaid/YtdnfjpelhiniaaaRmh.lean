/- Package demesneref17: Same. Package demesneref11: Ints. -/
import Derived.Test.YtdnfjpelhiniaaaRmg
import Derived.Test.YtdnfjpelhiniaaaFlat
import Derived.Test.YtdnfjpelhiniaaaPlace
import Derived.BigQuiet
namespace Go.Proofs.Ytdnfjpelhiniaaa
open Go.RowKit Mf

def cntI : Value → Nat
  | .int _ n => n.toNat
  | _ => 0
theorem own_slice3 {w : World} {base size n : Nat} {e : TypeId} {v : Value} {xs : List Value} (h : w.ownsRow base e size v n xs) : (v = .slice none 0 0 ∧ n = 0) ∨ ∃ g cc, v = .slice (some ⟨g, 0, none⟩) n cc ∧ base ≤ g ∧ g < w.heap.size := by
  rcases h.2 with ⟨h1, h0⟩ | ⟨g, cap, cur, rfl, _⟩
  · exact .inl ⟨h1, h0⟩
  · exact .inr ⟨g, cap, rfl, (h.lt g rfl).1, (h.lt g rfl).2⟩

/-- A list of places in memory. -/
abbrev PRow (w : World) (B : Nat) (v : Value) (xs : List Plc) : Prop := w.ownsRow B 31 2 v xs.length (xs.flatMap pc)
theorem PRow.form {w : World} {B : Nat} {v : Value} {xs : List Plc} (h : PRow w B v xs) : ∃ A cc, v = .slice A xs.length cc := by
  rcases own_slice3 h with ⟨rfl, h0⟩ | ⟨g, cc, rfl, _⟩
  · exact ⟨none, 0, by rw [h0]⟩
  · exact ⟨_, _, rfl⟩
theorem PRow.cells {w : World} {B : Nat} {A : Option Addr} {n cc : Nat} {xs : List Plc} (h : PRow w B (.slice A n cc) xs) {k : Nat} {x : Plc} (hx : xs[k]? = some x) : ∃ g, A = some ⟨g, 0, none⟩ ∧ w.cell? ⟨g, k * 2, none⟩ = some (.int .i64 x.1.1) ∧ w.cell? ⟨g, k * 2 + 1, none⟩ = some (.int .u64 x.1.2) := by
  have hk := (List.getElem?_eq_some_iff.1 hx).1
  rcases own_slice3 h with ⟨h1, h0⟩ | ⟨g, cc', h1, _⟩
  · omega
  · injection h1 with h1 h2 h3
    subst h1 h2 h3
    exact ⟨g, rfl, (own_cell (q := 0) pc_len h hx (by decide)).trans rfl, (own_cell (q := 1) pc_len h hx (by decide)).trans rfl⟩

theorem plc_beq (x y : Plc) : (x.1.1 == y.1.1 && x.1.2 == y.1.2) = decide (x = y) := by
  rw [Bool.eq_iff_iff, Bool.and_eq_true, beq_iff_eq, beq_iff_eq, decide_eq_true_eq]
  exact ⟨fun h => plc_ext h.1 h.2, fun h => by subst h; exact ⟨rfl, rfl⟩⟩

set_option maxHeartbeats 1000000 in
theorem psame {w : World} {B1 B2 : Nat} {v1 v2 : Value} {xs ys : List Plc} (h1 : PRow w B1 v1 xs) (h2 : PRow w B2 v2 ys) (hn : xs.length ≤ 1048576) :
    Calls Try.prog 15 #[v1, v2] w fun e w' => e = .returned (.bool (decide (xs = ys))) ∧ ∃ q, w' = w.drewN q := by
  obtain ⟨A1, c1, rfl⟩ := h1.form
  obtain ⟨A2, c2, rfl⟩ := h2.form
  have H1 := Lib.hid h1
  have H2 := Lib.hid h2
  clear h1 h2
  by_cases hl : xs.length = ys.length
  · obtain ⟨n, hn1⟩ : ∃ n, xs.length = n := ⟨_, rfl⟩
    have hn2 : ys.length = n := by omega
    rw [hn1] at hn
    rw [hn1, hn2]
    have HN1 := Lib.hid hn1
    have HN2 := Lib.hid hn2
    rw [hn1] at H1
    rw [hn2] at H2
    clear hl hn1 hn2
    go_enter Try.func15, Try.ntmps15
    go_wp2
    go_loopw [5] (fun i wr => ∃ k : Nat, i = .int .i64 k ∧ k ≤ n ∧ (∀ j, j < k → xs[j]? = ys[j]?) ∧ ∃ m, wr = w.drewN m) (fun i _ => n - cntI i)
    case atStart => exact ⟨0, rfl, Nat.zero_le _, fun j hj => by omega, 0, rfl⟩
    case round =>
      obtain ⟨k, rfl, hk, hsame, m, rfl⟩ := hrel
      have HS := Lib.hid hsame
      clear hsame
      by_cases hlt : k < n
      · obtain ⟨x, hx⟩ : ∃ x, xs[k]? = some x := ⟨_, List.getElem?_eq_getElem (by rw [HN1.out]; exact hlt)⟩
        obtain ⟨y, hy⟩ : ∃ y, ys[k]? = some y := ⟨_, List.getElem?_eq_getElem (by rw [HN2.out]; exact hlt)⟩
        obtain ⟨g1, rfl, ca0, ca1⟩ := H1.out.cells hx
        obtain ⟨g2, rfl, cb0, cb1⟩ := H2.out.cells hy
        have hne : ∀ W, (binOp .neq 31 (.agg #[.int .i64 x.1.1, .int .u64 x.1.2]) (.agg #[.int .i64 y.1.1, .int .u64 y.1.2])).run Try.prog W = .ok (.bool (!(decide (x = y)))) W := fun W => by rw [place_neq, plc_beq]
        have HX := Lib.hid hx
        have HY := Lib.hid hy
        clear hx hy
        by_cases hxy : x = y
        · have hd : (decide (x = y)) = true := by simpa using hxy
          rw [hd] at hne
          have HXY := Lib.hid hxy
          clear hxy hd
          go_wp2_with fail
          go_quiet (fail)
          go_wp2
          refine ⟨⟨k + 1, by go_num, by omega, fun j hj => ?_, _, rfl⟩, by simp [cntI]; omega⟩
          by_cases hjk : j = k
          · subst hjk; rw [HX.out, HY.out, HXY.out]
          · exact HS.out j (by omega)
        · have hd : (decide (x = y)) = false := by simpa using hxy
          rw [hd] at hne
          have hne2 : decide (xs = ys) = false := by
            rw [decide_eq_false_iff_not]; intro e; have h1 := HX.out; have h2 := HY.out; rw [e, h2] at h1; cases h1; exact hxy rfl
          clear hxy hd
          go_wp2_with fail
          go_quiet (fail)
          go_wp2
          go_ret
          exact ⟨by simp [hne2], _, by rw [World.drewN_drewN]⟩
      · have hkn : k = n := by omega
        subst hkn
        have he : decide (xs = ys) = true := by
          rw [decide_eq_true_eq]
          apply List.ext_getElem?
          intro j
          by_cases hj : j < k
          · exact HS.out j hj
          · rw [List.getElem?_eq_none (by rw [HN1.out]; omega), List.getElem?_eq_none (by rw [HN2.out]; omega)]
        go_wp2
        go_ret
        exact ⟨by simp [he], _, rfl⟩
  · have hne : decide (xs = ys) = false := by
      rw [decide_eq_false_iff_not]; intro e; rw [e] at hl; exact hl rfl
    rw [hne]
    have hl' : ((xs.length : Int) == (ys.length : Int)) = false := by rw [beq_eq_false_iff_ne]; omega
    go_enter Try.func15, Try.ntmps15
    go_wp2
    go_ret
    exact ⟨rfl, 0, rfl⟩

/-- A list of numbers in memory. -/
abbrev IRow (w : World) (B : Nat) (v : Value) (xs : List Int) : Prop := w.ownsRow B 3 1 v xs.length (xs.map (Value.int .i64))
theorem IRow.form {w : World} {B : Nat} {v : Value} {xs : List Int} (h : IRow w B v xs) : ∃ A cc, v = .slice A xs.length cc := by
  rcases own_slice3 h with ⟨rfl, h0⟩ | ⟨g, cc, rfl, _⟩
  · exact ⟨none, 0, by rw [h0]⟩
  · exact ⟨_, _, rfl⟩
theorem IRow.cell {w : World} {B : Nat} {A : Option Addr} {n cc : Nat} {xs : List Int} (h : IRow w B (.slice A n cc) xs) {k : Nat} {x : Int} (hx : xs[k]? = some x) : ∃ g, A = some ⟨g, 0, none⟩ ∧ w.cell? ⟨g, k, none⟩ = some (.int .i64 x) := by
  have hk := (List.getElem?_eq_some_iff.1 hx).1
  rcases own_slice3 h with ⟨h1, h0⟩ | ⟨g, cc', h1, _⟩
  · omega
  · injection h1 with h1 h2 h3
    subst h1 h2 h3
    refine ⟨g, rfl, ?_⟩
    rw [h.cellAt k (by omega), List.getElem?_map, hx]; rfl

set_option maxHeartbeats 1000000 in
theorem pints {w : World} {B1 B2 : Nat} {v1 v2 : Value} {xs ys : List Int} (h1 : IRow w B1 v1 xs) (h2 : IRow w B2 v2 ys) (hn : xs.length ≤ 1048576) :
    Calls Try.prog 17 #[v1, v2] w fun e w' => e = .returned (.bool (decide (xs = ys))) ∧ ∃ q, w' = w.drewN q := by
  obtain ⟨A1, c1, rfl⟩ := h1.form
  obtain ⟨A2, c2, rfl⟩ := h2.form
  have H1 := Lib.hid h1
  have H2 := Lib.hid h2
  clear h1 h2
  by_cases hl : xs.length = ys.length
  · obtain ⟨n, hn1⟩ : ∃ n, xs.length = n := ⟨_, rfl⟩
    have hn2 : ys.length = n := by omega
    rw [hn1] at hn
    rw [hn1, hn2]
    have HN1 := Lib.hid hn1
    have HN2 := Lib.hid hn2
    rw [hn1] at H1
    rw [hn2] at H2
    clear hl hn1 hn2
    go_enter Try.func17, Try.ntmps17
    go_wp2
    go_loopw [5] (fun i wr => ∃ k : Nat, i = .int .i64 k ∧ k ≤ n ∧ (∀ j, j < k → xs[j]? = ys[j]?) ∧ ∃ m, wr = w.drewN m) (fun i _ => n - cntI i)
    case atStart => exact ⟨0, rfl, Nat.zero_le _, fun j hj => by omega, 0, rfl⟩
    case round =>
      obtain ⟨k, rfl, hk, hsame, m, rfl⟩ := hrel
      have HS := Lib.hid hsame
      clear hsame
      by_cases hlt : k < n
      · obtain ⟨x, hx⟩ : ∃ x, xs[k]? = some x := ⟨_, List.getElem?_eq_getElem (by rw [HN1.out]; exact hlt)⟩
        obtain ⟨y, hy⟩ : ∃ y, ys[k]? = some y := ⟨_, List.getElem?_eq_getElem (by rw [HN2.out]; exact hlt)⟩
        obtain ⟨g1, rfl, ca0⟩ := H1.out.cell hx
        obtain ⟨g2, rfl, cb0⟩ := H2.out.cell hy
        have HX := Lib.hid hx
        have HY := Lib.hid hy
        clear hx hy
        by_cases hxy : x = y
        · subst hxy
          go_wp2_with fail
          go_quiet (fail)
          go_wp2
          refine ⟨⟨k + 1, by go_num, by omega, fun j hj => ?_, _, rfl⟩, by simp [cntI]; omega⟩
          by_cases hjk : j = k
          · subst hjk; rw [HX.out, HY.out]
          · exact HS.out j (by omega)
        · have hxy' : (x == y) = false := by simpa using hxy
          have hne2 : decide (xs = ys) = false := by
            rw [decide_eq_false_iff_not]; intro e; have h1 := HX.out; have h2 := HY.out; rw [e, h2] at h1; cases h1; exact hxy rfl
          go_wp2_with fail
          go_quiet (fail)
          go_wp2
          go_ret
          exact ⟨by simp [hne2], _, by rw [World.drewN_drewN]⟩
      · have hkn : k = n := by omega
        subst hkn
        have he : decide (xs = ys) = true := by
          rw [decide_eq_true_eq]
          apply List.ext_getElem?
          intro j
          by_cases hj : j < k
          · exact HS.out j hj
          · rw [List.getElem?_eq_none (by rw [HN1.out]; omega), List.getElem?_eq_none (by rw [HN2.out]; omega)]
        go_wp2
        go_ret
        exact ⟨by simp [he], _, rfl⟩
  · have hne : decide (xs = ys) = false := by
      rw [decide_eq_false_iff_not]; intro e; rw [e] at hl; exact hl rfl
    rw [hne]
    have hl' : ((xs.length : Int) == (ys.length : Int)) = false := by rw [beq_eq_false_iff_ne]; omega
    go_enter Try.func17, Try.ntmps17
    go_wp2
    go_ret
    exact ⟨rfl, 0, rfl⟩
end Go.Proofs.Ytdnfjpelhiniaaa
