/- What the function Page of the digest's reference makes: a page of its own. -/
import Derived.Test.YtkpngkdkkcadfaaDig
import Derived.Test.YtkpngkdkkcadfaaMem
import Derived.Laws.MakeOwn
import Derived.RegionTactic
import Derived.ChangeAlike
import Derived.StillTailTactics
namespace Go.Proofs.Ytkpngkdkkcadfaa
open Go.RowKit Flo

/-- How many bytes a page has. -/
def pgN : Nat := 4096
theorem pgN_eq : pgN = 4096 := rfl

/-- A page's cells. -/
def pc (g : Nat → Nat) : Array Value := (Array.range pgN).map fun j => Value.int .u8 (g j : Int)

theorem pc_size (g : Nat → Nat) : (pc g).size = pgN := by
  unfold pc
  rw [Array.size_map, Array.size_range]

theorem pc_get? (g : Nat → Nat) (j : Nat) : (pc g)[j]? = if j < pgN then some (.int .u8 (g j : Int)) else none := by
  show ((Array.range pgN).map fun j => Value.int .u8 (g j : Int))[j]? = _
  rw [Array.getElem?_map]
  by_cases h : j < pgN
  · rw [if_pos h, Array.getElem?_eq_getElem (by rw [Array.size_range]; exact h), Array.getElem_range]; rfl
  · rw [if_neg h, Array.getElem?_eq_none (by rw [Array.size_range]; omega)]; rfl

theorem pc_get (g : Nat → Nat) (j : Nat) (h : j < 4096) : (pc g)[j]? = some (.int .u8 (g j : Int)) := by
  rw [pc_get?, if_pos (by rw [pgN_eq]; exact h)]

/-- A byte put in. -/
def upd (g : Nat → Nat) (i v : Nat) : Nat → Nat := fun j => if j = i then v else g j

theorem upd_bytes {g : Nat → Nat} (hg : Bytes g) (i v : Nat) (hv : v < 256) : Bytes (upd g i v) := by
  intro j; unfold upd; split
  · exact hv
  · exact hg j

theorem pc_set (g : Nat → Nat) (i v : Nat) : (pc g).setIfInBounds i (.int .u8 (v : Int)) = pc (upd g i v) := by
  refine Array.ext_getElem? fun j => ?_
  rw [Array.getElem?_setIfInBounds, pc_get?, pc_get?, pc_size]
  unfold upd
  by_cases hij : i = j
  · subst hij; simp
  · have h2 : ¬ j = i := fun h => hij h.symm
    simp only [hij, h2, if_false]

theorem pc_zero : madeCells #[Value.int .u8 0] pgN = pc (fun _ => 0) := by
  unfold madeCells pc
  refine congrArg (fun f => Array.map f _) (funext fun j => ?_)
  rw [show j % (#[Value.int IntKind.u8 0] : Array Value).size = 0 from Nat.mod_one j]
  rfl

theorem Try.info5 : (Try.prog.info? 5).map (fun i => (i.zero, i.size, i.bytes)) = some (some (.int .u8 0), 1, 1) := by kernel_rfl

/-- make([]byte, 4096). -/
theorem make_page (w : World) : (Instr.makeSlice 30 (.int .i64 4096) (.int .i64 4096)).run Try.prog w = .ok (.slice (some ⟨w.heap.size, 0, none⟩) 4096 4096) (w.alloc (.cells (pc fun _ => 0) 5)) := by
  obtain ⟨i0, hi, hz0, hz1, hz2⟩ := info_parts Try.info5
  have h := run_make (P := Try.prog) w 30 5 i0 _ (by kernel_rfl) hi hz0 .i64 .i64 4096 4096 (by omega) (by omega) (by rw [hz2]; omega) (by omega)
  rw [hz1, show ((4096 : Int).toNat * 1) = pgN from rfl] at h
  rw [← pc_zero]
  exact h

theorem PageAt.of_blk {w : World} {b : Nat} {t : TypeId} {g : Nat → Nat} (h : Blk w b t (pc g)) : PageAt w b g := fun j hj => by
  rw [h.cell j]; exact pc_get g j hj

/-- Whole numbers in a row of memory. -/
def IntsR (xs : List Value) : Prop := ∀ u ∈ xs, ∃ i : Int, u = .int .i64 i
def BytesR (xs : List Value) : Prop := ∀ u ∈ xs, ∃ i : Nat, u = .int .u8 (i : Int) ∧ i < 256

set_option maxHeartbeats 1000000 in
set_option maxRecDepth 100000 in
theorem page_any (A B : Option Addr) (n m c d : Nat) (xs ys : List Value) (w : World) (ha : Reads w w.heap.size 1 A n xs) (hb : Reads w w.heap.size 1 B m ys) (hx : IntsR xs) (hy : BytesR ys) :
    Calls Try.prog 17 #[.slice A n c, .slice B m d] w fun e w' => e = .returned (.slice (some ⟨w.heap.size, 0, none⟩) 4096 4096) ∧ ∃ g, Bytes g ∧ Blk w' w.heap.size 5 (pc g) ∧ Below w.heap.size w w' := by
  have hmk := make_page
  have HA := Lib.hid ha
  have HB := Lib.hid hb
  clear ha hb
  go_enter Try.func17, Try.ntmps17
  go_wp2
  go_loopw [6] (fun i wr => ∃ k : Nat, i = .int .i64 k ∧ k ≤ 64 ∧ ∃ g, Bytes g ∧ Blk wr w.heap.size 5 (pc g) ∧ Below w.heap.size w wr) (fun i _ => 64 - (intOf i).toNat)
  case atStart => exact ⟨0, rfl, by omega, _, fun _ => by decide, Blk.new _ _ _, (Below.refl _ _).alloc (Nat.le_refl _) _⟩
  case round =>
    obtain ⟨k, rfl, hk, g, hg, hblk, hbel⟩ := hrel
    have HK := Lib.hid hblk
    have HL := Lib.hid hbel
    clear hblk hbel
    by_cases hlt : k < n ∧ k < m ∧ k < 64
    · obtain ⟨h1, h2, h3⟩ := hlt
      obtain ⟨a1, u1, rfl, hb1, hx1, hc1⟩ := (HA.out.below HL.out).at_ h1
      obtain ⟨a2, u2, rfl, hb2, hx2, hc2⟩ := (HB.out.below HL.out).at_ h2
      obtain ⟨i1, rfl⟩ := hx _ (List.mem_of_getElem? hx1)
      obtain ⟨v, rfl, hv⟩ := hy _ (List.mem_of_getElem? hx2)
      clear hx1 hx2 hb1 hb2
      have hmod : -4095 ≤ i1.tmod 4096 ∧ i1.tmod 4096 ≤ 4095 := by
        have h : (i1.tmod 4096).natAbs < 4096 := by rw [Int.natAbs_tmod]; exact Nat.mod_lt _ (by decide)
        omega
      obtain ⟨q, hq⟩ : ∃ q : Nat, i1.tmod 4096 % 4096 = (q : Int) := ⟨(i1.tmod 4096 % 4096).toNat, by omega⟩
      have hq4 : q < 4096 := by omega
      have hcell := (PageAt.of_blk HK.out) q hq4
      have hfz := HK.out.frozen q
      have hfin := Lib.hid (fun W (h : Blk W w.heap.size 5 (pc g)) => (pc_set g q v) ▸ h.set_ q (.int .u8 (v : Int)))
      have d64 : decide ((k : Int) < 64) = true := by simp; omega
      go_wp2
      go_region
      all_goals
        go_wp2
        go_roundw
        case rel => exact ⟨k + 1, by go_num, by omega, upd g q v, upd_bytes hg q v hv, hfin.out _ HK.out, (HL.out.setCell (p := ⟨w.heap.size, q, none⟩) (Nat.le_refl _) _).drew⟩
        case measure => simp [intOf]; omega
    · have hall : (k < n ∧ k < m ∧ k < 64) ∨ ¬ k < n ∨ (k < n ∧ ¬ k < m) ∨ (k < n ∧ k < m ∧ ¬ k < 64) := by omega
      rcases hall with h | h | ⟨h1, h2⟩ | ⟨h1, h2, h3⟩
      · exact absurd h hlt
      all_goals
        clear hlt
        go_wp2
        go_ret
        exact ⟨rfl, g, hg, HK.out, HL.out⟩

end Go.Proofs.Ytkpngkdkkcadfaa
