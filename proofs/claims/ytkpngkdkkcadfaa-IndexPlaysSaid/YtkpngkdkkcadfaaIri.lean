/- The law's groups: two lists of lists. -/
import Derived.Test.YtkpngkdkkcadfaaIrh
import Derived.Test.YtkpngkdkkcadfaaQui
namespace Go.Proofs.Ytkpngkdkkcadfaa
open Go.RowKit Mk

theorem quiet_drew {P : Program} {f : FuncId} {args : Array Value} {w : World} {n : Nat} {v : Value}
    (h : Calls P f args (w.drewN n) fun e w' => e = .returned v ∧ ∃ q, w' = (w.drewN n).drewN q) : Calls P f args (w.drewN n) fun e w'' => e = .returned v ∧ ∃ m, w'' = w.drewN m :=
  h.mono fun _ _ ⟨he, q, hq⟩ => ⟨he, n + q, by rw [hq, World.drewN_drewN]⟩
structure GRows (w : World) (B : Nat) (v : Value) (us : List Gr) : Prop where
  row : w.ownsRow B 48 1 v us.length (us.map uv)
  own : ∀ u ∈ us, w.ownsRow B 3 1 (uv u) u.2.1.length (u.2.1.map iv)
theorem GRows.below {w w' : World} {B : Nat} {v : Value} {us : List Gr} (h : GRows w B v us) (hb : Below w.heap.size w w') : GRows w' B v us := ⟨own_below h.row hb, fun u hu => own_below (h.own u hu) hb⟩
theorem GRows.cell {w : World} {B n cc : Nat} {A : Option Addr} {us : List Gr} (h : GRows w B (.slice A n cc) us) {k : Nat} {u : Gr} (hu : us[k]? = some u) : ∃ g, A = some ⟨g, 0, none⟩ ∧ w.cell? ⟨g, k, none⟩ = some (uv u) := by
  have hk := (List.getElem?_eq_some_iff.1 hu).1
  rcases own_slice3 h.row with ⟨h1, h0⟩ | ⟨g, cc', h1, _⟩
  · omega
  · injection h1 with h1 h2 h3
    subst h1 h2 h3
    refine ⟨g, rfl, ?_⟩
    rw [h.row.cellAt k (by omega), List.getElem?_map, hu]; rfl
def GpR (w : World) (n : Nat) (v : Value) (wr : World) : Prop := ∃ i : Nat, v = .int .i64 i ∧ i ≤ n ∧ ∃ q, wr = w.drewN q
set_option maxHeartbeats 4000000 in
theorem lgroups {w : World} {B1 B2 : Nat} {v1 v2 : Value} {us ts : List Gr} (h1 : GRows w B1 v1 us) (h2 : GRows w B2 v2 ts) (he : us.map (·.2.1) = ts.map (·.2.1)) (hl : ∀ u ∈ us, u.2.1.length ≤ 1048576) (hn : us.length ≤ 1048576) :
    Calls Try.prog 19 #[v1, v2] w fun e w' => e = .returned (.bool true) ∧ ∃ q, w' = w.drewN q := by
  obtain ⟨A1, c1, rfl, _⟩ := own_forms h1.row
  obtain ⟨A2, c2, rfl, _⟩ := own_forms h2.row
  have hll : ts.length = us.length := by have := congrArg List.length he; simpa using this.symm
  obtain ⟨n, hn1⟩ : ∃ n, us.length = n := ⟨_, rfl⟩
  rw [hll] at h2
  rw [hll, hn1]
  rw [hn1] at h1 h2 hn hll
  have H1 := Lib.hid h1
  have H2 := Lib.hid h2
  have HE := Lib.hid he
  have HL := Lib.hid hl
  have HN := Lib.hid (show us.length = n ∧ ts.length = n from ⟨hn1, hll⟩)
  clear h1 h2 he hl hn1 hll
  go_enter Try.func19, Try.ntmps19
  go_wp2
  go_loopw [5] (GpR w n) (fun v _ => n - cntI v)
  case atStart => exact ⟨0, rfl, Nat.zero_le _, 0, rfl⟩
  case round =>
    obtain ⟨i, rfl, hi, q, rfl⟩ := hrel
    by_cases hin : i < n
    · have g1 : decide ((i : Int) < (n : Int)) = true := by simp; exact hin
      have g1' : decide (i < n) = true := by simp; exact hin
      have hin2 : (i : Int) < (n : Int) := by omega
      obtain ⟨u, hu⟩ : ∃ x, us[i]? = some x := ⟨_, List.getElem?_eq_getElem (by rw [HN.out.1]; exact hin)⟩
      obtain ⟨t, ht⟩ : ∃ x, ts[i]? = some x := ⟨_, List.getElem?_eq_getElem (by rw [HN.out.2]; exact hin)⟩
      have hut : u.2.1 = t.2.1 := by
        have := congrArg (fun l => l[i]?) HE.out
        simp only [List.getElem?_map, hu, ht, Option.map_some] at this
        exact Option.some.inj this
      have hum := List.mem_of_getElem? hu
      have htm := List.mem_of_getElem? ht
      have CH : ∀ m, Calls Try.prog 36 #[uv u, uv t] (w.drewN m) fun e w' => e = .returned (.bool true) ∧ ∃ q, w' = (w.drewN m).drewN q := fun m => by
        have := pints (own_below (H1.out.own u hum) (below_drewN (Below.refl _ _) m)) (own_below (H2.out.own t htm) (below_drewN (Below.refl _ _) m)) (HL.out u hum)
        rw [hut, decide_eq_true rfl] at this
        exact this
      have HC := Lib.hid CH
      obtain ⟨g, rfl, d1⟩ := H1.out.cell hu
      obtain ⟨g', rfl, d2⟩ := H2.out.cell ht
      clear CH hut hum htm hu ht
      unfold uv at HC d1 d2
      generalize u.2.1.length = p1 at *
      generalize t.2.1.length = p2 at *
      go_wp2_with fail
      go_quiet ((go_at_call 36; first | exact quiet_drew (HC.out _) | exact quiet_add (HC.out _)))
      go_wp2
      exact ⟨⟨i + 1, by go_num, by omega, _, rfl⟩, by simp [cntI]; omega⟩
    · obtain rfl : i = n := by omega
      have g1 : decide ((i : Int) < (i : Int)) = false := by simp
      go_wp2
      go_ret
      exact ⟨rfl, _, rfl⟩
end Go.Proofs.Ytkpngkdkkcadfaa
