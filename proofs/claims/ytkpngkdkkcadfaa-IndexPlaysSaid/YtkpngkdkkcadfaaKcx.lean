/- Complex numbers whose parts are whole as a map's keys; ints as keys. -/
import Derived.Test.YtkpngkdkkcadfaaMapk
import Derived.Test.YtkpngkdkkcadfaaGau
namespace Go.Proofs.Ytkpngkdkkcadfaa
open Go.RowKit Flo Mk

/-- A number whose parts are whole. -/
abbrev Cx := {z : Int × Int // z.1.natAbs ≤ 2 ^ 53 ∧ z.2.natAbs ≤ 2 ^ 53}
def cxV (z : Cx) : Value := .complex .f64 (F z.1.1) (F z.1.2)
theorem cx_ext {a b : Cx} (h1 : a.1.1 = b.1.1) (h2 : a.1.2 = b.1.2) : a = b := Subtype.ext (Prod.ext h1 h2)
theorem floatEq_F {n m : Int} (hn : n.natAbs ≤ 2 ^ 53) (hm : m.natAbs ≤ 2 ^ 53) : Op.floatEq .f64 (F n) (F m) = decide (n = m) := by
  unfold Op.floatEq
  rw [order_is (F_is n) (F_is m) hn hm]
  by_cases h : n = m
  · subst h; simp
  · have : compare n m ≠ .eq := fun e => h (Int.compare_eq_eq.1 e)
    simp [h]
theorem equal_cx (a b : Cx) (w : World) : (Op.equal 53 (cxV a) (cxV b)).run Try.prog w = .ok (decide (a = b)) w := by
  have hu := run_underlying (P := Try.prog) (w := w) Try.underlying53
  have h1 := floatEq_F a.2.1 b.2.1
  have h2 := floatEq_F a.2.2 b.2.2
  have e : (decide (a.1.1 = b.1.1) && decide (a.1.2 = b.1.2)) = decide (a = b) := by
    rw [Bool.eq_iff_iff, Bool.and_eq_true, decide_eq_true_eq, decide_eq_true_eq, decide_eq_true_eq]
    exact ⟨fun h => cx_ext h.1 h.2, fun h => by subst h; exact ⟨rfl, rfl⟩⟩
  show (Op.equalIn (9999 + 1) 53 _ _).run _ _ = _
  unfold Op.equalIn cxV
  simp [hu, h1, h2, e, Result.andThen]
theorem F_inj {n m : Int} (hn : n.natAbs ≤ 2 ^ 53) (hm : m.natAbs ≤ 2 ^ 53) (h : F n = F m) : n = m := by
  have h1 := floatEq_F hn hn
  rw [decide_eq_true rfl] at h1
  have h2 := floatEq_F hn hm
  rw [← h, h1] at h2
  exact of_decide_eq_true h2.symm
theorem cx_inj (a b : Cx) (h : cxV a = cxV b) : a = b := by
  unfold cxV at h
  injection h with _ h1 h2
  exact cx_ext (F_inj a.2.1 b.2.1 h1) (F_inj a.2.2 b.2.2 h2)
theorem asking_cx (w : World) (x : Cx) : ∀ (es : List MapEntry) (i : Nat), (∀ e ∈ es, ∃ k, e.key = cxV k) →
    ((Instr.findAsking 53 (cxV x) es i).run Try.prog w = .ok none w ∧ ∀ e ∈ es, e.key ≠ cxV x) ∨ ∃ j e, (Instr.findAsking 53 (cxV x) es i).run Try.prog w = .ok (some (i + j, e.val)) w ∧ es[j]? = some e ∧ e.key = cxV x
  | [], i, _ => .inl ⟨rfl, fun e he => by cases he⟩
  | e :: es, i, h => by
    obtain ⟨k, hk⟩ := h e (List.mem_cons_self ..)
    have he := equal_cx x k w
    rw [← hk] at he
    by_cases hx : x = k
    · subst hx
      refine .inr ⟨0, e, ?_, rfl, hk⟩
      simp [Instr.findAsking, he, Result.andThen]
    · rw [decide_eq_false hx] at he
      rcases asking_cx w x es (i + 1) (fun e' he' => h e' (List.mem_cons_of_mem _ he')) with ⟨h1, h2⟩ | ⟨j, e', h1, h2, h3⟩
      · refine .inl ⟨?_, fun e' he' => ?_⟩
        · simp [Instr.findAsking, he, Result.andThen]; exact h1
        · rcases List.mem_cons.1 he' with rfl | he'
          · rw [hk]; intro e1; exact hx (cx_inj _ _ e1).symm
          · exact h2 e' he'
      · refine .inr ⟨j + 1, e', ?_, h2, h3⟩
        simp [Instr.findAsking, he, Result.andThen]
        rw [h1, show i + 1 + j = i + (j + 1) by omega]
def cxK : Kq Try.prog 53 Cx where
  val := cxV
  inj := cx_inj
  check := fun w em k => by
    have hu := run_underlying (P := Try.prog) (w := w) Try.underlying53
    show (Instr.checkKey em (9999 + 1) 53 (cxV k)).run Try.prog w = _
    unfold Instr.checkKey cxV
    simp [hu, Result.andThen]
  find := fun w x es h => by
    have hu := run_underlying (P := Try.prog) (w := w) Try.underlying53
    cases es with
    | nil => exact .inl ⟨by simp [Instr.findKey, hu, Instr.findNow, Result.andThen], fun e he => by cases he⟩
    | cons e es =>
      obtain ⟨k, hk⟩ := h e (List.mem_cons_self ..)
      have h0 : Instr.findNow (.complex .f64) (cxV x) (e :: es) 0 = none := by
        unfold Instr.findNow
        rw [hk]
        rfl
      have h1 : (Instr.findKey 53 (cxV x) (e :: es)).run Try.prog w = (Instr.findAsking 53 (cxV x) (e :: es) 0).run Try.prog w := by
        simp [Instr.findKey, hu, h0, Result.andThen]
      rw [h1]
      rcases asking_cx w x (e :: es) 0 h with ⟨h2, h3⟩ | ⟨j, e', h2, h3, h4⟩
      · exact .inl ⟨h2, h3⟩
      · exact .inr ⟨j, e', by rw [h2, Nat.zero_add], h3, h4⟩
  stays := fun w k => by
    unfold Instr.keyThatStays cxV
    simp [Instr.sameBits]

/-- Ints as keys. -/
abbrev Ki := {z : Int // (Lit.int .i64 z).wf = true}
def kiK : Kq Try.prog 3 Ki := Kq.ofKeyed (Maps.int_keyed Try.underlying3) (fun z => .int .i64 z.1) (fun k k' h => by injection h with _ h; exact Subtype.ext h) (fun k => ⟨_, Maps.keyOf_int_mk Try.underlying3 k.2⟩)
end Go.Proofs.Ytkpngkdkkcadfaa
