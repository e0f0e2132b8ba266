/- What New, Get, May, Do and List of package demesneref11 do: contracts; the reference's next is the program's May and move. -/
import Derived.Test.YtibklcjjdnhkdaaLedq
import Derived.Test.YtibklcjjdnhkdaaL11d
import Derived.Laws.OwnMore
import Derived.Laws.MakeOwn
namespace Go.Proofs.Ytibklcjjdnhkdaa
open Go.RowKit Mf

theorem made_zero (m : Nat) : (madeCells #[.int .i64 0, .int .i64 0] m).toList = List.replicate m (.int .i64 0) := by
  unfold madeCells
  apply List.ext_getElem
  · simp
  · intro i h1 h2
    simp only [Array.toList_map, List.getElem_map, List.getElem_replicate]
    have : ∀ k : Nat, (#[Value.int .i64 0, Value.int .i64 0] : Array Value)[k % 2]! = .int .i64 0 := fun k => by
      rcases Nat.mod_two_eq_zero_or_one k with h | h <;> rw [h] <;> rfl
    exact this _

theorem flat_zero (n : Nat) : (List.replicate n ((0 : Int), (0 : Int))).flatMap enC = List.replicate (n * 2) (.int .i64 0) := by
  induction n with
  | zero => rfl
  | succ n ih => rw [List.replicate_succ, List.flatMap_cons, ih, Nat.succ_mul]; rfl

/-- The reference's list is the ledger's function. -/
def Sim (n : Nat) (ps : List (Int × Int)) (f : Int → Option (Int × Int)) : Prop := ∀ i : Nat, i < n → ps[i]? = some (ent f i)

theorem sim_new (n : Nat) : Sim n (List.replicate n (0, 0)) (fun _ => none) := fun i hi => by
  rw [List.getElem?_replicate, if_pos hi]; rfl

def NewIs (w : World) (n : Nat) (e : Ending) (w' : World) : Prop := ∃ rb, e = .returned (.tuple #[.pointer (some ⟨rb, 0, none⟩), .int .i64 0]) ∧ w.heap.size < rb ∧ QAt w' rb w.heap.size w.heap.size n (List.replicate n (0, 0)) ∧ Below w.heap.size w w'

set_option maxHeartbeats 1000000 in
theorem rnew_ok (n : Nat) (z : Int) (hz : z = n) (w : World) (h : 1 ≤ n ∧ n ≤ 300) :
    Calls Try.prog 9 #[.int .i64 z] w (NewIs w n) := by
  obtain ⟨i0, hi0, hz0, hz1, hz2⟩ := info_parts infoE
  obtain ⟨w1, hmk, hown, hg⟩ := run_makeSlice_full (P := Try.prog) w w.heap.size 48 36 i0 (.agg #[.int .i64 0, .int .i64 0]) 2 Try.underlying48 hi0 hz0 hz1 .i64 .i64 n (by omega) (by rw [hz2]; omega) (by unfold maxLen; omega) (Nat.le_refl _)
  have hown : w1.ownsRow w.heap.size 36 2 (.slice (some ⟨w.heap.size, 0, none⟩) n n) n ((List.replicate n ((0 : Int), (0 : Int))).flatMap enC) := by
    rw [flat_zero, ← made_zero]; exact hown
  have hsz : w.heap.size < w1.heap.size := (hown.lt w.heap.size rfl).2
  rw [← hz] at hmk
  have HO := Lib.hid hown
  have HG := Lib.hid hg
  have HZ := Lib.hid hz
  have z1 : 1 ≤ z := by omega
  have z2 : z ≤ 300 := by omega
  clear hown hg hz hz0 hz1 hz2 hi0 h
  go_enter Try.func9, Try.ntmps9
  go_wp2
  go_ret2
  exact ⟨w1.heap.size, rfl, hsz, ⟨Blk.new w1 _ _, HO.out.alloc _, by simp, hsz⟩, ((Below.refl w.heap.size w).grown HG.out (Nat.le_refl _) (fun _ e => by cases e)).alloc (Nat.le_of_lt hsz) _⟩

set_option maxHeartbeats 1000000 in
theorem rnew_no (n : Int) (w : World) (h : n < 1 ∨ 1048576 < n) :
    Calls Try.prog 9 #[.int .i64 n] w fun e w' => e = .returned (.tuple #[.pointer none, .int .i64 1]) ∧ w = w' := by
  rcases h with h | h
  · go_enter Try.func9, Try.ntmps9
    go_wp2
    go_ret2
    exact ⟨rfl, rfl⟩
  · have h' : ¬ n < 1 := by omega
    go_enter Try.func9, Try.ntmps9
    go_wp2
    go_ret2
    exact ⟨rfl, rfl⟩

set_option maxHeartbeats 1000000 in
theorem rmay_any (rb B g n : Nat) (ps : List (Int × Int)) (f : Int → Option (Int × Int)) (frame act p : Int) (w : World) (h : QAt w rb B g n ps) (hs : Sim n ps f) (hG : ∀ k, Good (ent f k)) :
    Calls Try.prog 11 #[.pointer (some ⟨rb, 0, none⟩), .int .i64 frame, .int .i64 act, .int .i64 p] w fun e w' => e = .returned (.int .i64 (mayS n (ent f frame) frame act p)) ∧ Below w.heap.size w w' := by
  have hnx := next_any rb B g n ps frame act p (ent f frame) w h (fun i hi hl => by rw [← hi]; exact hs i hl)
  rw [nextR_eq (hG frame)] at hnx
  have HN := Lib.hid hnx
  clear h hs hG hnx
  generalize mayS n (ent f frame) frame act p = r at *
  generalize (if r = 0 then nxt n (ent f frame) frame act p else (0, 0)) = y at *
  go_enter Try.func11, Try.ntmps11
  go_wp2_with fail
  refine HN.out.mono ?_; rintro e w1 ⟨rfl, hb1⟩
  go_wp2
  go_ret
  exact ⟨rfl, hb1.alloc hb1.size _⟩
end Go.Proofs.Ytibklcjjdnhkdaa
