/- pdqsortOrdered's helpers at words: the choice of a pivot: any place of the stretch. -/
import Derived.Test.YthnefhkacgkacaaSrty
namespace Go.Proofs.Ythnefhkacgkacaa
open Go.RowKit

/-- The count of swaps lies in the block that w would make next; all of w is as it was. -/
def PivS (w wr : World) : Prop := (∃ s : Int, Blk wr w.heap.size 3 #[.int .i64 s]) ∧ Below w.heap.size w wr

section
variable {w : World} {base g n cap : Nat} {d : List Int}
abbrev RowW (w : World) (base g n cap : Nat) (d : List Int) : Prop := w.ownsRow base 29 1 (.slice (some ⟨g, 0, none⟩) n cap) n (d.map (Value.int .u64))

set_option maxRecDepth 100000 in
set_option maxHeartbeats 2000000 in
theorem order2_u (off l m a b : Nat) (hoff : off = 0) (h : RowW w base g n cap d) (wr : World) (hp : PivS w wr) (ha : l ≤ a ∧ a < m) (hb : l ≤ b ∧ b < m) (hm : m ≤ n) (_ : n < 4611686018427387904) :
    Calls Try.prog 44 #[.slice (some ⟨g, off, none⟩) n cap, .int .i64 a, .int .i64 b, .pointer (some ⟨w.heap.size, 0, none⟩)] wr fun e w' =>
      (∃ a' b' : Nat, e = .returned (.tuple #[.int .i64 a', .int .i64 b']) ∧ (l ≤ a' ∧ a' < m) ∧ l ≤ b' ∧ b' < m) ∧ PivS w w' := by
  obtain ⟨⟨s, hs⟩, hbl⟩ := hp
  have HO := Lib.hid hoff
  have hrow := RowU.start (own_below h hbl) 0 n
  obtain ⟨G, hG⟩ : ∃ G : Nat → Int, ∀ t, G t = ele d t := ⟨fun t => ele d t, fun _ => rfl⟩
  have hcw : ∀ t, t < n → wr.cell? ⟨g, off + t, none⟩ = some (.int .u64 (G t)) := fun t ht => by rw [hG, HO.out, Nat.zero_add]; exact hrow.cell t ht
  have s0 := hs.cell 0
  have z0 := hs.frozen 0
  have HS := Lib.hid hs
  have HB := Lib.hid hbl
  clear hoff hrow hG hs hbl h
  have fin : ∀ q x, PivS w ((wr.drewN q).setCell ⟨w.heap.size, 0, none⟩ (.int .i64 x)) := fun q x =>
    ⟨⟨x, by have := (HS.out.drewN q).set_ 0 (.int .i64 x); simpa using this⟩, (below_drewN HB.out q).setCell (Nat.le_refl _) _⟩
  have FIN := Lib.hid fin
  have fin2 : ∀ q, PivS w (wr.drewN q) := fun q => ⟨⟨s, HS.out.drewN q⟩, below_drewN HB.out q⟩
  have FIN2 := Lib.hid fin2
  clear fin fin2
  go_enter Try.func44, Try.ntmps44
  go_wp2
  go_quiet (first | (go_at_call 33; refine Calls.quiet_of_same (less_u _ _ _)))
  go_wp2
  · go_ret2
    exact ⟨⟨b, a, rfl, hb, ha⟩, FIN.out _ _⟩
  · go_ret2
    exact ⟨⟨a, b, rfl, ha, hb⟩, FIN2.out _⟩

set_option maxHeartbeats 2000000 in
theorem median_u (off l m a b c : Nat) (hoff : off = 0) (h : RowW w base g n cap d) (wr : World) (hp : PivS w wr) (ha : l ≤ a ∧ a < m) (hb : l ≤ b ∧ b < m) (hc : l ≤ c ∧ c < m) (hm : m ≤ n) (hsz : n < 4611686018427387904) :
    Calls Try.prog 42 #[.slice (some ⟨g, off, none⟩) n cap, .int .i64 a, .int .i64 b, .int .i64 c, .pointer (some ⟨w.heap.size, 0, none⟩)] wr fun e w' =>
      (∃ x : Nat, e = .returned (.int .i64 x) ∧ l ≤ x ∧ x < m) ∧ PivS w w' := by
  have HP := Lib.hid hp
  have C := Lib.hid (fun a b wr hp ha hb => order2_u off l m a b hoff h wr hp ha hb hm hsz)
  clear hp h hoff
  go_enter Try.func42, Try.ntmps42
  go_wp2_with fail
  refine (C.out a b _ HP.out ha hb).mono ?_; rintro e w1 ⟨⟨x1, y1, rfl, hx1, hy1⟩, hp1⟩
  have HP1 := Lib.hid hp1
  clear hp1
  go_wp2_with fail
  refine (C.out y1 c _ HP1.out hy1 hc).mono ?_; rintro e w2 ⟨⟨x2, y2, rfl, hx2, hy2⟩, hp2⟩
  have HP2 := Lib.hid hp2
  clear hp2
  go_wp2_with fail
  refine (C.out x1 x2 _ HP2.out hx1 hx2).mono ?_; rintro e w3 ⟨⟨x3, y3, rfl, hx3, hy3⟩, hp3⟩
  have HP3 := Lib.hid hp3
  clear hp3
  go_wp2
  go_ret
  exact ⟨⟨y3, rfl, hy3⟩, HP3.out⟩

set_option maxHeartbeats 2000000 in
theorem medadj_u (off l m a : Nat) (hoff : off = 0) (h : RowW w base g n cap d) (wr : World) (hp : PivS w wr) (ha : l + 1 ≤ a ∧ a + 1 < m) (hm : m ≤ n) (hsz : n < 4611686018427387904) :
    Calls Try.prog 41 #[.slice (some ⟨g, off, none⟩) n cap, .int .i64 a, .pointer (some ⟨w.heap.size, 0, none⟩)] wr fun e w' =>
      (∃ x : Nat, e = .returned (.int .i64 x) ∧ l ≤ x ∧ x < m) ∧ PivS w w' := by
  obtain ⟨k, rfl⟩ : ∃ k, a = k + 1 := ⟨a - 1, by omega⟩
  have C := Lib.hid (median_u off l m k (k + 1) (k + 2) hoff h wr hp (by omega) (by omega) (by omega) hm hsz)
  clear hp h hoff
  have e1 : ((k + 1 : Nat) : Int) - 1 = (k : Int) := by omega
  have e2 : ((k + 1 : Nat) : Int) + 1 = ((k + 2 : Nat) : Int) := by omega
  generalize hz : ((k + 1 : Nat) : Int) = z at *
  generalize hy : ((k + 2 : Nat) : Int) = y at *
  have hr : 0 ≤ z ∧ z < 4611686018427387904 := by omega
  clear hz hy
  go_enter Try.func41, Try.ntmps41
  go_wp2_with fail
  refine C.out.mono ?_; rintro e w1 ⟨⟨x1, rfl, hx1⟩, hp1⟩
  have HP1 := Lib.hid hp1
  clear hp1
  go_wp2
  go_ret
  exact ⟨⟨x1, rfl, hx1⟩, HP1.out⟩
end
end Go.Proofs.Ythnefhkacgkacaa
