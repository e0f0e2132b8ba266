/- What Add, Lend, Lent, Back and Drop of package host do: contracts. -/
import Derived.Test.YtephgikeofkblaaHos
namespace Go.Proofs.Ytephgikeofkblaa
open Go.RowKit Mf

set_option maxHeartbeats 400000 in
theorem add_neg (b : Nat) (fr : Int) (w : World) (h0 : fr < 0) :
    Calls Try.prog 7 #[.pointer (some ⟨b, 0, none⟩), .int .i64 fr] w fun e w' => e = .returned (.tuple #[.int .i64 0, .int .i64 1]) ∧ w = w' := by
  go_enter Try.func7, Try.ntmps7
  go_wp2
  go_ret2
  exact ⟨rfl, rfl⟩

set_option maxHeartbeats 400000 in
theorem add_full (b mb N : Nat) (last : Int) (f : Int → Option Pg) (fr : Int) (w : World) (h : BookAt w b mb N last f) (h0 : ¬ fr < 0) (hl : last = 65536) :
    Calls Try.prog 7 #[.pointer (some ⟨b, 0, none⟩), .int .i64 fr] w fun e w' => e = .returned (.tuple #[.int .i64 0, .int .i64 2]) ∧ w = w' := by
  subst hl
  have c1 := h.c1
  clear h
  go_enter Try.func7, Try.ntmps7
  go_wp2
  go_ret2
  exact ⟨rfl, rfl⟩

set_option maxHeartbeats 1000000 in
theorem add_ok (b mb N : Nat) (last : Int) (f : Int → Option Pg) (fr : Int) (w : World) (h : BookAt w b mb N last f) (h0 : ¬ fr < 0) (hl : 0 ≤ last ∧ last < 65536) (hN : N < maxLen) :
    Calls Try.prog 7 #[.pointer (some ⟨b, 0, none⟩), .int .i64 fr] w fun e w' => e = .returned (.tuple #[.int .i64 (last + 1), .int .i64 0]) ∧ BookAt w' b mb (N + 1) (last + 1) (setF f (last + 1) ⟨fr, false, 0, 0⟩) ∧ Only (fun k => k = b ∨ k = mb) w w' := by
  have hwf : (Lit.int .i64 (last + 1)).wf = true := by
    simp only [Lit.wf, IntKind.min, IntKind.max, Bool.and_eq_true]
    constructor <;> simp [IntKind.bits, IntKind.signed] <;> omega
  have hle : (last == 65536) = false := by rw [beq_eq_false_iff_ne]; omega
  have h1 : BookAt (w.setCell ⟨b, 1, none⟩ (.int .i64 (last + 1))).drew b mb N (last + 1) f := ⟨(h.blk.set_ 1 _).drew, h.m.setCell (a := ⟨b, 1, none⟩) (fun e => h.ne e.symm) _⟩
  obtain ⟨w3, hrun, h3, ho⟩ := h1.store hwf hN fr false 0 0
  have c0 := h.c0
  have c1 := h.c1
  have hfz := h.blk.frozen 1
  have c3 := h3.c1
  have H3 := Lib.hid h3
  have HO := Lib.hid (show Only (fun k => k = b ∨ k = mb) w w3 from (((Only.refl _ w).setCell (p := ⟨b, 1, none⟩) (.inl (.inl rfl)) _).drew).trans (ho.mono fun k e => .inr e))
  clear h h1 h3 ho
  go_enter Try.func7, Try.ntmps7
  go_wp2
  go_region
  go_wp2
  go_ret2
  exact ⟨rfl, H3.out, HO.out⟩

/-- What Lend, Back and Drop tell, and what the pages are behind them. -/
def lendE (f : Int → Option Pg) (k : Int) : Int := match f k with | none => 23 | some x => if x.lent then 24 else 0
def lendF (f : Int → Option Pg) (k g p : Int) : Int → Option Pg := match f k with | none => f | some x => if x.lent then f else setF f k ⟨x.fr, true, g, p⟩
def backE (f : Int → Option Pg) (k : Int) : Int := match f k with | none => 23 | some x => if x.lent then 0 else 20
def backF (f : Int → Option Pg) (k : Int) : Int → Option Pg := match f k with | none => f | some x => if x.lent then setF f k ⟨x.fr, false, 0, 0⟩ else f
def dropE (f : Int → Option Pg) (k : Int) : Int × Int := match f k with | none => (0, 23) | some x => if x.lent then (0, 24) else (x.fr, 0)
def dropF (f : Int → Option Pg) (k : Int) : Int → Option Pg := match f k with | none => f | some x => if x.lent then f else delF f k

set_option maxHeartbeats 1000000 in
theorem lend_any (b mb N : Nat) (last : Int) (f : Int → Option Pg) (k g p : Int) (w : World) (h : BookAt w b mb N last f) (hw : (Lit.int .i64 k).wf = true) (hN : N < maxLen) :
    Calls Try.prog 9 #[.pointer (some ⟨b, 0, none⟩), .int .i64 k, .agg #[.int .i64 g, .int .u64 p]] w fun e w' => e = .returned (.int .i64 (lendE f k)) ∧ BookAt w' b mb (N + 1) last (lendF f k g p) ∧ Only (· = mb) w w' := by
  have hl := (h.below ((Below.refl w.heap.size w).alloc (Nat.le_refl _) (.cells #[.int .i64 g, .int .u64 p] 31))).look_ok hw
  have c0 := h.c0
  have H := Lib.hid h
  have hlt := h.blk.lt
  unfold lendE lendF pgAt at *
  have hfin : ∀ o o', BookAt ((w.alloc o).alloc o') b mb (N + 1) last f ∧ Only (· = mb) w ((w.alloc o).alloc o') := fun o o' =>
    have ho : Only (· = mb) w ((w.alloc o).alloc o') := ((Only.refl _ w).alloc o).alloc o'
    ⟨(h.below (((Below.refl _ w).alloc (Nat.le_refl _) o).alloc (by simp) o')).mono (Nat.le_succ _), ho⟩
  have FIN := Lib.hid hfin
  clear hfin h
  cases hf : f k with
  | none =>
    rw [hf] at hl
    clear hf
    go_enter Try.func9, Try.ntmps9
    go_wp2
    go_ret
    exact ⟨rfl, FIN.out _ _⟩
  | some x =>
    rw [hf] at hl
    have HF := Lib.hid hf
    clear hf
    obtain ⟨a, l, g', p'⟩ := x
    simp only [Option.getD, Option.isSome] at hl
    cases l
    · have h1 : BookAt ((w.alloc (.cells #[.int .i64 g, .int .u64 p] 31)).alloc (.cells #[.int .i64 a, .bool false, .int .i64 g', .int .u64 p'] 56)).drew b mb N last f :=
        H.out.below ((((Below.refl _ w).alloc (Nat.le_refl _) _).alloc (by simp) _).drew)
      obtain ⟨w3, hrun, h3, ho⟩ := h1.store hw hN a true g p
      have H3 := Lib.hid h3
      have HO := Lib.hid (show Only (· = mb) w w3 from ((((Only.refl _ w).alloc _).alloc _).drew).trans ho)
      clear h1 h3 ho
      go_enter Try.func9, Try.ntmps9
      go_wp2
      go_region
      go_wp2
      go_ret
      exact ⟨rfl, H3.out, HO.out⟩
    · go_enter Try.func9, Try.ntmps9
      go_wp2
      go_ret
      exact ⟨rfl, FIN.out _ _⟩

set_option maxHeartbeats 1000000 in
theorem back_any (b mb N : Nat) (last : Int) (f : Int → Option Pg) (k : Int) (w : World) (h : BookAt w b mb N last f) (hw : (Lit.int .i64 k).wf = true) (hN : N < maxLen) :
    Calls Try.prog 11 #[.pointer (some ⟨b, 0, none⟩), .int .i64 k] w fun e w' => e = .returned (.int .i64 (backE f k)) ∧ BookAt w' b mb (N + 1) last (backF f k) ∧ Only (· = mb) w w' := by
  have hl := h.look_ok hw
  have c0 := h.c0
  have H := Lib.hid h
  have hlt := h.blk.lt
  unfold backE backF pgAt at *
  have hfin : ∀ o, BookAt (w.alloc o) b mb (N + 1) last f ∧ Only (· = mb) w (w.alloc o) := fun o =>
    ⟨(h.below ((Below.refl _ w).alloc (Nat.le_refl _) o)).mono (Nat.le_succ _), (Only.refl _ w).alloc o⟩
  have FIN := Lib.hid hfin
  clear hfin h
  cases hf : f k with
  | none =>
    rw [hf] at hl
    clear hf
    go_enter Try.func11, Try.ntmps11
    go_wp2
    go_ret
    exact ⟨rfl, FIN.out _⟩
  | some x =>
    rw [hf] at hl
    have HF := Lib.hid hf
    clear hf
    obtain ⟨a, l, g', p'⟩ := x
    simp only [Option.getD, Option.isSome] at hl
    cases l
    · go_enter Try.func11, Try.ntmps11
      go_wp2
      go_ret
      exact ⟨rfl, FIN.out _⟩
    · have h1 : BookAt (w.alloc (.cells #[.int .i64 a, .bool true, .int .i64 g', .int .u64 p'] 56)).drew b mb N last f :=
        H.out.below (((Below.refl _ w).alloc (Nat.le_refl _) _).drew)
      obtain ⟨w3, hrun, h3, ho⟩ := h1.store hw hN a false 0 0
      have H3 := Lib.hid h3
      have HO := Lib.hid (show Only (· = mb) w w3 from (((Only.refl _ w).alloc _).drew).trans ho)
      clear h1 h3 ho
      go_enter Try.func11, Try.ntmps11
      go_wp2
      go_region
      go_wp2
      go_ret
      exact ⟨rfl, H3.out, HO.out⟩

set_option maxHeartbeats 1000000 in
theorem drop_any (b mb N : Nat) (last : Int) (f : Int → Option Pg) (k : Int) (w : World) (h : BookAt w b mb N last f) (hw : (Lit.int .i64 k).wf = true) :
    Calls Try.prog 13 #[.pointer (some ⟨b, 0, none⟩), .int .i64 k] w fun e w' => e = .returned (.tuple #[.int .i64 (dropE f k).1, .int .i64 (dropE f k).2]) ∧ BookAt w' b mb N last (dropF f k) ∧ Only (· = mb) w w' := by
  have hl := h.look_ok hw
  have c0 := h.c0
  have H := Lib.hid h
  have hlt := h.blk.lt
  unfold dropE dropF pgAt at *
  have hfin : ∀ o, BookAt (w.alloc o) b mb N last f ∧ Only (· = mb) w (w.alloc o) := fun o =>
    ⟨h.below ((Below.refl _ w).alloc (Nat.le_refl _) o), (Only.refl _ w).alloc o⟩
  have FIN := Lib.hid hfin
  clear hfin h
  cases hf : f k with
  | none =>
    rw [hf] at hl
    clear hf
    go_enter Try.func13, Try.ntmps13
    go_wp2
    go_ret2
    exact ⟨rfl, FIN.out _⟩
  | some x =>
    rw [hf] at hl
    have HF := Lib.hid hf
    clear hf
    obtain ⟨a, l, g', p'⟩ := x
    simp only [Option.getD, Option.isSome] at hl
    cases l
    · obtain ⟨w3, hrun, h3, ho⟩ := (FIN.out (.cells #[.int .i64 a, .bool false, .int .i64 g', .int .u64 p'] 56)).1.drop hw 0
      have c3 : w3.cell? ⟨w.heap.size, 0, none⟩ = some (.int .i64 a) := (ho.cell (p := ⟨w.heap.size, 0, none⟩) (by simp) (by have := H.out.m.lt; simp; omega)).trans (World.cell?_alloc_at _ _ _ _ (by simp))
      have H3 := Lib.hid h3
      have HO := Lib.hid (show Only (· = mb) w w3 from ((Only.refl _ w).alloc _).trans ho)
      clear h3 ho
      go_enter Try.func13, Try.ntmps13
      go_wp2
      go_ret2
      exact ⟨rfl, H3.out, HO.out⟩
    · go_enter Try.func13, Try.ntmps13
      go_wp2
      go_ret2
      exact ⟨rfl, FIN.out _⟩

set_option maxHeartbeats 1000000 in
theorem lent_any (b mb N : Nat) (last : Int) (f : Int → Option Pg) (k : Int) (w : World) (h : BookAt w b mb N last f) (hw : (Lit.int .i64 k).wf = true) :
    Calls Try.prog 17 #[.pointer (some ⟨b, 0, none⟩), .int .i64 k] w fun e w' => e = .returned (.tuple #[.agg #[.int .i64 (pgAt f k).g, .int .u64 (pgAt f k).p], .bool (pgAt f k).lent]) ∧ Below w.heap.size w w' := by
  have hl := (h.below ((Below.refl w.heap.size w).alloc (Nat.le_refl _) (.cells #[.int .i64 0, .int .u64 0] 31))).look hw
  have c0 := h.c0
  have hlt := h.blk.lt
  clear h
  generalize pgAt f k = x at *
  obtain ⟨a, l, g, p⟩ := x
  simp only at hl
  go_enter Try.func17, Try.ntmps17
  go_wp2
  go_region
  go_wp2
  exact bodyPost_ret (v := .tuple #[.agg #[.int .i64 g, .int .u64 p], .bool l]) (by simp [results, Try.results17, go_sem]) rfl ⟨rfl, (((Below.refl _ _).alloc (Nat.le_refl _) _).alloc (by simp) _).drew⟩
end Go.Proofs.Ytephgikeofkblaa
