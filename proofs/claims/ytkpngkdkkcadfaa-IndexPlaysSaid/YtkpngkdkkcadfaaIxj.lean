/- Package demesneref11: Ints. Pages beside the book; the law's calls where their answer is known. -/
import Derived.Test.YtkpngkdkkcadfaaIxi
import Derived.BigQuiet
namespace Go.Proofs.Ytkpngkdkkcadfaa
open Go.RowKit Mk

def cntI : Value → Nat
  | .int _ n => n.toNat
  | _ => 0
theorem own_slice3 {w : World} {base size n : Nat} {e : TypeId} {v : Value} {xs : List Value} (h : w.ownsRow base e size v n xs) : (v = .slice none 0 0 ∧ n = 0) ∨ ∃ g cc, v = .slice (some ⟨g, 0, none⟩) n cc ∧ base ≤ g ∧ g < w.heap.size := by
  rcases h.2 with ⟨h1, h0⟩ | ⟨g, cap, cur, rfl, _⟩
  · exact .inl ⟨h1, h0⟩
  · exact .inr ⟨g, cap, rfl, (h.lt g rfl).1, (h.lt g rfl).2⟩

/-- A list of numbers in memory. -/
abbrev IRow (w : World) (B : Nat) (v : Value) (xs : List Int) : Prop := w.ownsRow B 3 1 v xs.length (xs.map iv)
theorem IRow.form {w : World} {B : Nat} {v : Value} {xs : List Int} (h : IRow w B v xs) : ∃ A cc, v = .slice A xs.length cc := by
  rcases own_slice3 h with ⟨rfl, h0⟩ | ⟨g, cc, rfl, _⟩
  · exact ⟨none, 0, by rw [h0]⟩
  · exact ⟨_, _, rfl⟩
theorem IRow.cell {w : World} {B : Nat} {A : Option Addr} {n cc : Nat} {xs : List Int} (h : IRow w B (.slice A n cc) xs) {k : Nat} {x : Int} (hx : xs[k]? = some x) : ∃ g, A = some ⟨g, 0, none⟩ ∧ w.cell? ⟨g, k, none⟩ = some (.int .i64 x) := by
  have hk := (List.getElem?_eq_some_iff.1 hx).1
  rcases own_slice3 h with ⟨h1, h0⟩ | ⟨g, cc', h1, _⟩
  · omega
  · injection h1 with h1 h2 h3
    subst h1 h2 h3
    refine ⟨g, rfl, ?_⟩
    rw [h.cellAt k (by omega), List.getElem?_map, hx]; rfl

set_option maxHeartbeats 1000000 in
theorem pints {w : World} {B1 B2 : Nat} {v1 v2 : Value} {xs ys : List Int} (h1 : IRow w B1 v1 xs) (h2 : IRow w B2 v2 ys) (hn : xs.length ≤ 1048576) :
    Calls Try.prog 36 #[v1, v2] w fun e w' => e = .returned (.bool (decide (xs = ys))) ∧ ∃ q, w' = w.drewN q := by
  obtain ⟨A1, c1, rfl⟩ := h1.form
  obtain ⟨A2, c2, rfl⟩ := h2.form
  have H1 := Lib.hid h1
  have H2 := Lib.hid h2
  clear h1 h2
  by_cases hl : xs.length = ys.length
  · obtain ⟨n, hn1⟩ : ∃ n, xs.length = n := ⟨_, rfl⟩
    have hn2 : ys.length = n := by omega
    rw [hn1] at hn
    rw [hn1, hn2]
    have HN1 := Lib.hid hn1
    have HN2 := Lib.hid hn2
    rw [hn1] at H1
    rw [hn2] at H2
    clear hl hn1 hn2
    go_enter Try.func36, Try.ntmps36
    go_wp2
    go_loopw [5] (fun i wr => ∃ k : Nat, i = .int .i64 k ∧ k ≤ n ∧ (∀ j, j < k → xs[j]? = ys[j]?) ∧ ∃ m, wr = w.drewN m) (fun i _ => n - cntI i)
    case atStart => exact ⟨0, rfl, Nat.zero_le _, fun j hj => by omega, 0, rfl⟩
    case round =>
      obtain ⟨k, rfl, hk, hsame, m, rfl⟩ := hrel
      have HS := Lib.hid hsame
      clear hsame
      by_cases hlt : k < n
      · obtain ⟨x, hx⟩ : ∃ x, xs[k]? = some x := ⟨_, List.getElem?_eq_getElem (by rw [HN1.out]; exact hlt)⟩
        obtain ⟨y, hy⟩ : ∃ y, ys[k]? = some y := ⟨_, List.getElem?_eq_getElem (by rw [HN2.out]; exact hlt)⟩
        obtain ⟨g1, rfl, ca0⟩ := H1.out.cell hx
        obtain ⟨g2, rfl, cb0⟩ := H2.out.cell hy
        have HX := Lib.hid hx
        have HY := Lib.hid hy
        clear hx hy
        by_cases hxy : x = y
        · subst hxy
          go_wp2_with fail
          go_quiet (fail)
          go_wp2
          refine ⟨⟨k + 1, by go_num, by omega, fun j hj => ?_, _, rfl⟩, by simp [cntI]; omega⟩
          by_cases hjk : j = k
          · subst hjk; rw [HX.out, HY.out]
          · exact HS.out j (by omega)
        · have hxy' : (x == y) = false := by simpa using hxy
          have hne2 : decide (xs = ys) = false := by
            rw [decide_eq_false_iff_not]; intro e; have h1 := HX.out; have h2 := HY.out; rw [e, h2] at h1; cases h1; exact hxy rfl
          go_wp2_with fail
          go_quiet (fail)
          go_wp2
          go_ret
          exact ⟨by simp [hne2], _, by rw [World.drewN_drewN]⟩
      · have hkn : k = n := by omega
        subst hkn
        have he : decide (xs = ys) = true := by
          rw [decide_eq_true_eq]
          apply List.ext_getElem?
          intro j
          by_cases hj : j < k
          · exact HS.out j hj
          · rw [List.getElem?_eq_none (by rw [HN1.out]; omega), List.getElem?_eq_none (by rw [HN2.out]; omega)]
        go_wp2
        go_ret
        exact ⟨by simp [he], _, rfl⟩
  · have hne : decide (xs = ys) = false := by
      rw [decide_eq_false_iff_not]; intro e; rw [e] at hl; exact hl rfl
    rw [hne]
    have hl' : ((xs.length : Int) == (ys.length : Int)) = false := by rw [beq_eq_false_iff_ne]; omega
    go_enter Try.func36, Try.ntmps36
    go_wp2
    go_ret
    exact ⟨rfl, 0, rfl⟩

/-- A page beside the book. -/
def PgN (w : World) (B : Nat → Prop) (b : Nat) (g : Nat → Nat) : Prop := Pg w b g ∧ ¬ B b
section
variable {w w' : World} {W cm cx : Nat} {G G' : Int → Nat → Nat} {S S' : Ki → Option Cx} {B : Nat → Prop}
theorem PgN.below {b : Nat} {g : Nat → Nat} (h : PgN w B b g) (hb : Below w.heap.size w w') : PgN w' B b g := ⟨h.1.below hb, h.2⟩
theorem PgN.new {B0 : Nat} {b n cc : Nat} {g : Nat → Nat} (hk : Bk w W cm cx G S B) (h : w'.ownsRow B0 5 1 (.slice (some ⟨b, 0, none⟩) n cc) 4096 (byL g 4096)) (hB : w.heap.size ≤ B0) : PgN w' B b g :=
  ⟨Pg.of_own h, fun hb => by have := (hk.lt hb).2; have := (h.lt b rfl).1; omega⟩
theorem BkTo.step (h : BkTo w w' W cm cx G' S' B) : ∃ B', Bk w' W cm cx G' S' B' ∧ (∀ b g, PgN w B b g → PgN w' B' b g) ∧ Only B w w' := by
  obtain ⟨B', h1, h2, h3⟩ := h
  refine ⟨B', h1, fun b g ⟨hp, hn⟩ => ⟨⟨Nat.lt_of_lt_of_le hp.1 h2.size, fun j hj => (h2.cell (p := ⟨b, j, none⟩) hp.1 hn).trans (hp.2 j hj)⟩, fun hb => ?_⟩, h2⟩
  rcases h3 b hb with h4 | h4
  · exact hn h4
  · have := hp.1; omega
theorem kwrite_ok (h : Bk w W cm cx G S B) {fr a s x : Nat} (hs : s = 1 ∨ s = 8) (ha : a % s = 0) (hb : a + s ≤ 4096) (hx : x = fr * 4096 + a) (hf : fr < 12) (v : Nat) :
    Calls Try.prog 7 #[.pointer (some ⟨cm, 0, none⟩), .int .u64 x, .int .i64 s, .int .u64 v] w fun e w' => e = .returned (.int .i64 0) ∧ BkTo w w' W cm cx (wrF G fr (putB (G fr) a s v)) S B :=
  (kwrite h hs ha hb hx (by omega) v).mono fun e w' hp => by
    rcases hp with ⟨_, h1, h2⟩ | ⟨h1, _⟩
    · exact ⟨h1, h2⟩
    · omega
theorem kadd_ok (h : Bk w W cm cx G S B) (k : Int) (hk : (Lit.int .i64 k).wf = true) (h0 : 0 ≤ k ∧ k < 12) (hs : S ⟨k, hk⟩ = none) :
    Calls Try.prog 8 #[.pointer (some ⟨cx, 0, none⟩), .int .i64 k] w fun e w' => e = .returned (.int .i64 0) ∧ BkTo w w' W cm cx G (putS S ⟨k, hk⟩ (dig (G k))) B :=
  (kadd h k hk).mono fun e w' hp => by
    rcases hp with ⟨h1, _⟩ | ⟨_, h1, _⟩ | ⟨_, _, h1, h2⟩
    · exact absurd h0 h1
    · rw [hs] at h1; cases h1
    · exact ⟨h1, h2⟩
theorem kadd_there (h : Bk w W cm cx G S B) (k : Int) (hk : (Lit.int .i64 k).wf = true) (h0 : 0 ≤ k ∧ k < 12) (hs : (S ⟨k, hk⟩).isSome = true) :
    Calls Try.prog 8 #[.pointer (some ⟨cx, 0, none⟩), .int .i64 k] w fun e w' => e = .returned (.int .i64 22) ∧ Below w.heap.size w w' :=
  (kadd h k hk).mono fun e w' hp => by
    rcases hp with ⟨h1, _⟩ | ⟨_, _, h1, h2⟩ | ⟨_, h1, _⟩
    · exact absurd h0 h1
    · exact ⟨h1, h2⟩
    · rw [h1] at hs; cases hs
theorem kadd_range (h : Bk w W cm cx G S B) (k : Int) (hk : (Lit.int .i64 k).wf = true) (h0 : ¬ (0 ≤ k ∧ k < 12)) :
    Calls Try.prog 8 #[.pointer (some ⟨cx, 0, none⟩), .int .i64 k] w fun e w' => e = .returned (.int .i64 2) ∧ Below w.heap.size w w' :=
  (kadd h k hk).mono fun e w' hp => by
    rcases hp with ⟨_, h1, h2⟩ | ⟨h1, _⟩ | ⟨h1, _⟩
    · exact ⟨h1, h2⟩
    · exact absurd h1 h0
    · exact absurd h1 h0
theorem kdrop_ok (h : Bk w W cm cx G S B) (k : Int) (hk : (Lit.int .i64 k).wf = true) (hs : (S ⟨k, hk⟩).isSome = true) :
    Calls Try.prog 11 #[.pointer (some ⟨cx, 0, none⟩), .int .i64 k] w fun e w' => e = .returned (.int .i64 0) ∧ BkTo w w' W cm cx G (delS S ⟨k, hk⟩) B :=
  (kdrop h k hk).mono fun e w' hp => by
    rcases hp with ⟨h1, _⟩ | ⟨_, h1, h2⟩
    · rw [h1] at hs; cases hs
    · exact ⟨h1, h2⟩
theorem kdrop_none (h : Bk w W cm cx G S B) (k : Int) (hk : (Lit.int .i64 k).wf = true) (hs : S ⟨k, hk⟩ = none) :
    Calls Try.prog 11 #[.pointer (some ⟨cx, 0, none⟩), .int .i64 k] w fun e w' => e = .returned (.int .i64 23) ∧ w = w' :=
  (kdrop h k hk).mono fun e w' hp => by
    rcases hp with ⟨_, h1, h2⟩ | ⟨h1, _⟩
    · exact ⟨h1, h2⟩
    · rw [hs] at h1; cases h1
theorem kget_ok (h : Bk w W cm cx G S B) (k : Int) (hk : (Lit.int .i64 k).wf = true) (h0 : 0 ≤ k ∧ k < 12) : Calls Try.prog 9 #[.pointer (some ⟨cm, 0, none⟩), .int .i64 k] w fun e w' => ∃ b cc, e = .returned (.tuple #[.slice (some ⟨b, 0, none⟩) 4096 cc, .int .i64 0]) ∧ PgN w' B b (G k) ∧ w.heap.size ≤ b ∧ w'.ownsRow w.heap.size 5 1 (.slice (some ⟨b, 0, none⟩) 4096 cc) 4096 (byL (G k) 4096) ∧ Below w.heap.size w w' :=
  (kget h k hk).mono fun e w' hp => by
    obtain ⟨h1, ⟨_, _, v, h2, h3⟩ | ⟨h2, _⟩⟩ := hp
    · obtain ⟨b, cc, rfl, _, _⟩ := h3.form (by omega)
      exact ⟨b, cc, h2, PgN.new h h3 (Nat.le_refl _), (h3.lt b rfl).1, h3, h1⟩
    · exact absurd h0 h2
/-- Found, or not. -/
theorem kfind_yes (h : Bk w W cm cx G S B) {b cap : Nat} {g : Nat → Nat} (hp : PgN w B b g) (hg : ∀ j, g j < 256) (nt k : Int) (hk : Hit G S g nt k) (hl : ∀ k', Hit G S g nt k' → k ≤ k') :
    Calls Try.prog 10 #[.pointer (some ⟨cx, 0, none⟩), .slice (some ⟨b, 0, none⟩) 4096 cap, .int .i64 nt] w fun e w' => e = .returned (.tuple #[.int .i64 k, .bool true]) ∧ Below w.heap.size w w' :=
  (kfind h hp.1 hg nt).mono fun e w' hp => by
    obtain ⟨h1, ⟨k', h2, h3, h4⟩ | ⟨h2, _⟩⟩ := hp
    · have : k = k' := by have := hl k' h2; have := h3 k hk; omega
      subst this
      exact ⟨h4, h1⟩
    · exact absurd hk (h2 k)
theorem kfind_no (h : Bk w W cm cx G S B) {b cap : Nat} {g : Nat → Nat} (hp : PgN w B b g) (hg : ∀ j, g j < 256) (nt : Int) (hn : ∀ k, ¬ Hit G S g nt k) :
    Calls Try.prog 10 #[.pointer (some ⟨cx, 0, none⟩), .slice (some ⟨b, 0, none⟩) 4096 cap, .int .i64 nt] w fun e w' => e = .returned (.tuple #[.int .i64 0, .bool false]) ∧ Below w.heap.size w w' :=
  (kfind h hp.1 hg nt).mono fun e w' hp => by
    obtain ⟨h1, ⟨k', h2, _⟩ | ⟨_, h2⟩⟩ := hp
    · exact absurd h2 (hn k')
    · exact ⟨h2, h1⟩
end
end Go.Proofs.Ytkpngkdkkcadfaa
