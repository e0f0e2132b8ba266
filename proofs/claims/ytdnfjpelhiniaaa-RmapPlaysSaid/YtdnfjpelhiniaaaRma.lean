/- Package rmap: places as keys, maps of maps in memory. -/
import Derived.Test.YtdnfjpelhiniaaaRows
import Derived.Test.YtdnfjpelhiniaaaMapg
import Derived.Test.YtdnfjpelhiniaaaRow
import Derived.Test.YtdnfjpelhiniaaaOnly
import Derived.Test.YtdnfjpelhiniaaaTake
import Derived.DeepKeys4
import Derived.WalkKit
import Derived.Lib.Hide
import Derived.WalkMore
namespace Go.Proofs.Ytdnfjpelhiniaaa
open Go.RowKit Mf
open Go.Maps (Keyed)

/-- A place: a guest and a page, as they fit. -/
abbrev Plc := {p : Int × Int // (Lit.int .i64 p.1).wf = true ∧ (Lit.int .u64 p.2).wf = true}
def plcV (p : Plc) : Value := .agg #[.int .i64 p.1.1, .int .u64 p.1.2]
def plcL (p : Plc) : Lit := .string (keyBytes [.int .i64 p.1.1, .int .u64 p.1.2])

theorem laidOutP : laidOutB Try.prog = true := by kernel_rfl
theorem keyedP : Keyed Try.prog 31 := Keyed.of_law (deep_law_laid (m := 3) laidOutP (by decide) (by decide +kernel) (by decide +kernel) (by kernel_rfl))
theorem keyed3 : Keyed Try.prog 3 := Maps.int_keyed Try.underlying3

theorem plc_size : ∃ m, Try.prog.types.size = m + 1 := ⟨Try.prog.types.size - 1, by decide +kernel⟩
theorem plc_lits (d : Nat) (g p : Int) (h1 : (Lit.int .i64 g).wf = true) (h2 : (Lit.int .u64 p).wf = true) : Try.prog.keyLits (d + 2) 31 [.int .i64 g, .int .u64 p] = some [.int .i64 g, .int .u64 p] := by
  have hc : Try.prog.cellsOf 31 = 2 := by kernel_rfl
  have c3 : Try.prog.cellsOf 3 = 1 := by kernel_rfl
  have c4 : Try.prog.cellsOf 29 = 1 := by kernel_rfl
  simp [Program.keyLits, Try.underlying31, Try.underlying3, Try.underlying29, hc, c3, c4, h1, h2]
theorem plc_key (p : Plc) : keyOf Try.prog 31 (plcV p) = some (plcL p) := by
  obtain ⟨m, hm⟩ := plc_size
  have hc : Try.prog.cellsOf 31 = 2 := by kernel_rfl
  have hk : Try.prog.keyType 31 = true := by decide +kernel
  have hl := plc_lits m p.1.1 p.1.2 p.2.1 p.2.2
  unfold keyOf
  rw [hm]
  simp only [Try.underlying31, hk]
  have hf : (plcV p).formed Try.prog 31 = true := by
    unfold plcV Value.formed
    simp [Try.underlying31, hc]
  rw [hf]
  have hcs : (plcV p).cells.toList = [.int .i64 p.1.1, .int .u64 p.1.2] := rfl
  rw [hcs, hl]
  rfl
theorem int_lits {d : Nat} {t : TypeId} {q : IntKind} {a : Value} {l : List Lit} (hu : Try.prog.underlying t = some (.int q)) (h : Try.prog.keyLits (d + 1) t [a] = some l) : ∃ n, a = .int q n ∧ (Lit.int q n).wf = true ∧ l = [.int q n] := by
  unfold Program.keyLits at h
  rw [hu] at h
  cases a <;> simp at h
  obtain ⟨⟨rfl, h1⟩, rfl⟩ := h
  exact ⟨_, rfl, h1, rfl⟩

theorem plc_lits_inv {d : Nat} {cs : List Value} {ls : List Lit} (h : Try.prog.keyLits (d + 2) 31 cs = some ls) : ∃ g p, cs = [.int .i64 g, .int .u64 p] ∧ (Lit.int .i64 g).wf = true ∧ (Lit.int .u64 p).wf = true ∧ ls = [.int .i64 g, .int .u64 p] := by
  have hc : Try.prog.cellsOf 31 = 2 := by kernel_rfl
  have c3 : Try.prog.cellsOf 3 = 1 := by kernel_rfl
  have c4 : Try.prog.cellsOf 29 = 1 := by kernel_rfl
  unfold Program.keyLits at h
  rw [Try.underlying31] at h
  simp only [hc] at h
  split at h
  · rename_i hl
    match cs, hl.1 with
    | [a, b], _ =>
      simp [c3, c4] at h
      cases h3 : Try.prog.keyLits (d + 1) 3 [a] with
      | none => rw [h3] at h; cases h
      | some la =>
        cases h4 : Try.prog.keyLits (d + 1) 29 [b] with
        | none => rw [h3, h4] at h; cases h
        | some lb =>
          rw [h3, h4] at h
          obtain ⟨g, rfl, hg, rfl⟩ := int_lits Try.underlying3 h3
          obtain ⟨p, rfl, hp, rfl⟩ := int_lits Try.underlying29 h4
          refine ⟨g, p, rfl, hg, hp, ?_⟩
          simpa using h.symm
  · cases h

theorem plc_inv (v : Value) (l : Lit) (h : keyOf Try.prog 31 v = some l) : ∃ p : Plc, v = plcV p ∧ l = plcL p := by
  obtain ⟨m, hm⟩ := plc_size
  have hk : Try.prog.keyType 31 = true := by decide +kernel
  unfold keyOf at h
  rw [hm] at h
  simp only [Try.underlying31, hk, Bool.true_and] at h
  split at h
  · rename_i hf
    obtain ⟨ls, h1, h2⟩ := Option.map_eq_some_iff.1 h
    obtain ⟨g, p, e1, e2, e3, e4⟩ := plc_lits_inv h1
    cases v with
    | agg cs =>
      have e5 : cs.toList = [.int .i64 g, .int .u64 p] := e1
      refine ⟨⟨(g, p), e2, e3⟩, ?_, ?_⟩
      · unfold plcV
        congr 1
        exact Array.toList_inj.1 e5
      · rw [← h2, e4]; rfl
    | _ => simp [Value.formed, Try.underlying31] at hf
  · cases h

theorem plc_inj (p p' : Plc) (h : plcL p = plcL p') : p = p' := by
  have h1 := plc_key p
  have h2 := plc_key p'
  rw [← h] at h2
  have := keyedP.inj h1 h2
  unfold plcV at this
  simp at this
  obtain ⟨⟨g, q⟩, _⟩ := p
  obtain ⟨⟨g', q'⟩, _⟩ := p'
  simp at this
  obtain ⟨rfl, rfl⟩ := this
  rfl

def plcC : Kc Try.prog 31 Plc where
  val := plcV
  lit := plcL
  key := plc_key
  inv := plc_inv
  inj := plc_inj
  isKey := fun _ => trivial

/-- Uses: true. -/
def useC : Enc Bool where
  val := fun b => .bool b
  dat := fun b => .lit (.bool b)
  rd := fun v => match v with | .bool b => some (.lit (.bool b), []) | _ => none
  rd_val := fun _ => rfl
  rd_inv := fun v y h => by
    cases v <;> simp at h
    exact ⟨_, rfl, h.symm⟩
  inj := fun e e' h => by
    have : Lit.bool e = Lit.bool e' := by injection h
    injection this

/-- A frame's map: its block. -/
def refC : Enc Nat where
  val := fun b => .map (some b)
  dat := fun b => .lit (.int .i64 b)
  rd := fun v => match v with | .map (some b) => some (.lit (.int .i64 b), []) | _ => none
  rd_val := fun _ => rfl
  rd_inv := fun v y h => by
    split at h
    · rename_i b
      cases h
      exact ⟨b, rfl, rfl⟩
    · cases h
  inj := fun e e' h => by
    have h1 : Lit.int .i64 (e : Int) = Lit.int .i64 (e' : Int) := by injection h
    injection h1 with _ h2
    omega
end Go.Proofs.Ytdnfjpelhiniaaa
