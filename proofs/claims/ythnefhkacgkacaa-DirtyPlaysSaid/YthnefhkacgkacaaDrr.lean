/- What package demesneref19 does with its log in memory: contracts of at, Has, Start, Stop, Collect. -/
import Derived.Test.YthnefhkacgkacaaTel
namespace Go.Proofs.Ythnefhkacgkacaa
open Go.RowKit Mf

/-- The reference's log in memory. -/
structure RL (w : World) (c B : Nat) (on : Bool) (v : Value) (xs : List Int) : Prop where
  blk : Blk w c 28 #[.bool on, v]
  own : w.ownsRow B 29 1 v xs.length (xs.map (Value.int .u64))
  lt : c < B

section
variable {w w' : World} {c B : Nat} {on : Bool} {v : Value} {xs : List Int} {S : Nat → Prop}
theorem RL.only (h : RL w c B on v xs) (ho : Only S w w') (h1 : ¬ S c) (h2 : ∀ k, S k → k < B) : RL w' c B on v xs := ⟨h.blk.only ho h1, own_only h.own ho h2, h.lt⟩
theorem RL.below (h : RL w c B on v xs) (hb : Below w.heap.size w w') : RL w' c B on v xs := ⟨h.blk.below hb h.blk.lt, own_below h.own hb, h.lt⟩
theorem RL.drewN (h : RL w c B on v xs) (q : Nat) : RL (w.drewN q) c B on v xs := h.below (below_drewN (Below.refl _ _) q)
theorem RL.c0 (h : RL w c B on v xs) : w.cell? ⟨c, 0, none⟩ = some (.bool on) := (h.blk.cell 0).trans rfl
theorem RL.c1 (h : RL w c B on v xs) : w.cell? ⟨c, 1, none⟩ = some v := (h.blk.cell 1).trans rfl
end

/-- Where p stands, or would. -/
structure PosIs (xs : List Int) (p : Int) (k : Nat) : Prop where
  le : k ≤ xs.length
  lo : ∀ j, j < k → ele xs j < p
  hi : k < xs.length → p ≤ ele xs k

theorem PosIs.mem {xs : List Int} {p : Int} {k : Nat} (h : PosIs xs p k) (hs : xs.Pairwise (· < ·)) : p ∈ xs ↔ k < xs.length ∧ ele xs k = p := by
  constructor
  · intro hp
    obtain ⟨j, j1, j2⟩ := ele_mem.1 hp
    have h1 : k ≤ j := by
      rcases Nat.lt_or_ge j k with h1 | h1
      · have := h.lo j h1; omega
      · exact h1
    have h2 : k < xs.length := by omega
    have h3 := h.hi h2
    refine ⟨h2, ?_⟩
    by_cases e : j = k
    · rw [← e]; exact j2
    · have := strict_ele hs (show k < j by omega) j1; omega
  · rintro ⟨h1, h2⟩; exact ele_mem.2 ⟨k, h1, h2⟩

def AtIs (w : World) (xs : List Int) (p : Int) (e : Ending) (w' : World) : Prop := ∃ (k q : Nat), e = .returned (.tuple #[.int .i64 k, .bool (decide (k < xs.length ∧ ele xs k = p))]) ∧ PosIs xs p k ∧ w' = w.drewN q

set_option maxHeartbeats 2000000 in
theorem rat_any (c B : Nat) (on : Bool) (v : Value) (xs : List Int) (p : Int) (w : World) (h : RL w c B on v xs) (hl : xs.length ≤ 1000) :
    Calls Try.prog 22 #[.pointer (some ⟨c, 0, none⟩), .int .u64 p] w (AtIs w xs p) := by
  obtain ⟨A, cc, rfl, hrd⟩ := own_slice h.own
  have c1 := h.c1
  have HR := Lib.hid hrd
  obtain ⟨n, hn⟩ : ∃ n, xs.length = n := ⟨_, rfl⟩
  rw [hn] at c1 hl
  have HN := Lib.hid hn
  clear h hrd hn
  go_enter Try.func22, Try.ntmps22
  go_wp2_with fail
  go_loop [6] (fun v => ∃ k : Nat, v = .int .i64 k ∧ k ≤ n ∧ ∀ j, j < k → ele xs j < p) (fun v => n - cnt v)
  case atStart => exact ⟨0, rfl, Nat.zero_le _, fun j hj => by omega⟩
  case round =>
    obtain ⟨k, rfl, hk, hlo⟩ := hrel
    have HLO := Lib.hid hlo
    clear hlo
    by_cases hkn : k < n
    · have hkn' : decide ((k : Int) < (n : Int)) = true := by simp; omega
      obtain ⟨ad, rfl, hc⟩ := reads_e HR.out (show k < xs.length by rw [HN.out]; exact hkn)
      by_cases hx : ele xs k < p
      · have hx' : decide (ele xs k < p) = true := by simpa using hx
        have HX := Lib.hid hx
        clear hx
        go_wp2
        go_round
        case rel => exact ⟨k + 1, by go_num, by omega, fun j hj => by
          by_cases e : j = k
          · rw [e]; exact HX.out
          · exact HLO.out j (by omega)⟩
        case measure => simp [cnt]; omega
      · have hx' : decide (ele xs k < p) = false := by simpa using hx
        have HX := Lib.hid hx
        clear hx
        go_wp2_with fail
        go_quiet (fail)
        go_wp2
        go_ret2
        exact ⟨k, _, by
          have e : (ele xs k == p) = decide (ele xs k = p) := by rw [Bool.eq_iff_iff, beq_iff_eq, decide_eq_true_eq]
          rw [HN.out]
          simp [hkn, e], ⟨by rw [HN.out]; omega, HLO.out, fun _ => HX.out⟩, rfl⟩
    · have hkn' : decide ((k : Int) < (n : Int)) = false := by simp; omega
      have hkn2 : decide (k < n) = false := by simp; omega
      go_wp2_with fail
      go_quiet (fail)
      go_wp2
      go_ret2
      exact ⟨k, _, by rw [HN.out]; simp [hkn], ⟨by rw [HN.out]; omega, HLO.out, fun h => absurd h (by rw [HN.out]; exact hkn)⟩, rfl⟩

/-- The reference's log tells a set of pages. -/
structure RSim (xs : List Int) (P : Int → Bool) : Prop where
  srt : xs.Pairwise (· < ·)
  mem : ∀ p, p ∈ xs ↔ P p = true

set_option maxHeartbeats 2000000 in
theorem rhas_any (c B : Nat) (on : Bool) (v : Value) (xs : List Int) (P : Int → Bool) (p : Int) (w : World) (h : RL w c B on v xs) (hs : RSim xs P) (hl : xs.length ≤ 1000) :
    Calls Try.prog 20 #[.pointer (some ⟨c, 0, none⟩), .int .u64 p] w fun e w' => e = .returned (.bool (P p)) ∧ ∃ q, w' = w.drewN q := by
  have C := Lib.hid (rat_any c B on v xs p w h hl)
  have HS := Lib.hid hs
  clear h hs
  go_enter Try.func20, Try.ntmps20
  go_wp2_with fail
  refine C.out.mono ?_
  rintro e w1 ⟨k, q, rfl, hk, rfl⟩
  have e1 : decide (k < xs.length ∧ ele xs k = p) = P p := by
    rw [Bool.eq_iff_iff, decide_eq_true_eq, ← hk.mem HS.out.srt, HS.out.mem]
  rw [e1]
  clear hk e1
  go_wp2
  go_ret
  exact ⟨rfl, _, rfl⟩

/-- What Start and Stop leave. -/
def RTurn (w : World) (c B : Nat) (on : Bool) (e : Ending) (w' : World) : Prop := e = .returned (.int .i64 0) ∧ RL w' c B on (.slice none 0 0) [] ∧ Only (fun k => k = c) w w'

theorem rl_fresh {w : World} {c B : Nat} {on on' : Bool} {v : Value} {xs : List Int} (h : RL w c B on v xs) : RL ((w.setCell ⟨c, 0, none⟩ (.bool on')).setCell ⟨c, 1, none⟩ (.slice none 0 0)) c B on' (.slice none 0 0) [] ∧ Only (fun k => k = c) w ((w.setCell ⟨c, 0, none⟩ (.bool on')).setCell ⟨c, 1, none⟩ (.slice none 0 0)) :=
  ⟨⟨(h.blk.set_ 0 (.bool on')).set_ 1 (.slice none 0 0), World.ownsRow_nil _ _ _ _, h.lt⟩, ((Only.refl (fun k => k = c) w).setCell (p := ⟨c, 0, none⟩) (.inl rfl) _).setCell (p := ⟨c, 1, none⟩) (.inl rfl) _⟩

set_option maxHeartbeats 1000000 in
theorem rstart_off (c B : Nat) (v : Value) (xs : List Int) (w : World) (h : RL w c B false v xs) :
    Calls Try.prog 13 #[.pointer (some ⟨c, 0, none⟩)] w (RTurn w c B true) := by
  have c0 := h.c0
  have c1 := h.c1
  have z0 := h.blk.frozen 0
  have z1 := h.blk.frozen 1
  have HF := Lib.hid (rl_fresh (on' := true) h)
  clear h
  go_enter Try.func13, Try.ntmps13
  go_wp2
  go_ret
  exact ⟨rfl, HF.out.1, HF.out.2⟩

set_option maxHeartbeats 1000000 in
theorem rstop_on (c B : Nat) (v : Value) (xs : List Int) (w : World) (h : RL w c B true v xs) :
    Calls Try.prog 15 #[.pointer (some ⟨c, 0, none⟩)] w (RTurn w c B false) := by
  have c0 := h.c0
  have c1 := h.c1
  have z0 := h.blk.frozen 0
  have z1 := h.blk.frozen 1
  have HF := Lib.hid (rl_fresh (on' := false) h)
  clear h
  go_enter Try.func15, Try.ntmps15
  go_wp2
  go_ret
  exact ⟨rfl, HF.out.1, HF.out.2⟩

theorem rstart_on (c B : Nat) (v : Value) (xs : List Int) (w : World) (h : RL w c B true v xs) :
    Calls Try.prog 13 #[.pointer (some ⟨c, 0, none⟩)] w fun e w' => e = .returned (.int .i64 20) ∧ w = w' := by
  have c0 := h.c0
  clear h
  go_enter Try.func13, Try.ntmps13
  go_wp2
  go_ret
  exact ⟨rfl, rfl⟩

theorem rstop_off (c B : Nat) (v : Value) (xs : List Int) (w : World) (h : RL w c B false v xs) :
    Calls Try.prog 15 #[.pointer (some ⟨c, 0, none⟩)] w fun e w' => e = .returned (.int .i64 20) ∧ w = w' := by
  have c0 := h.c0
  clear h
  go_enter Try.func15, Try.ntmps15
  go_wp2
  go_ret
  exact ⟨rfl, rfl⟩

theorem rcoll_off (c B : Nat) (v : Value) (xs : List Int) (w : World) (h : RL w c B false v xs) :
    Calls Try.prog 10 #[.pointer (some ⟨c, 0, none⟩)] w fun e w' => e = .returned (.tuple #[.slice none 0 0, .int .i64 20]) ∧ w = w' := by
  have c0 := h.c0
  clear h
  go_enter Try.func10, Try.ntmps10
  go_wp2
  go_ret2
  exact ⟨rfl, rfl⟩

def RColl (w : World) (c B : Nat) (v : Value) (xs : List Int) (e : Ending) (w' : World) : Prop := e = .returned (.tuple #[v, .int .i64 0]) ∧ RL w' c B true (.slice none 0 0) [] ∧ Only (fun k => k = c) w w' ∧ w'.ownsRow B 29 1 v xs.length (xs.map (Value.int .u64))

set_option maxHeartbeats 1000000 in
theorem rcoll_on (c B : Nat) (v : Value) (xs : List Int) (w : World) (h : RL w c B true v xs) :
    Calls Try.prog 10 #[.pointer (some ⟨c, 0, none⟩)] w (RColl w c B v xs) := by
  have c0 := h.c0
  have c1 := h.c1
  have z1 := h.blk.frozen 1
  have ho : Only (fun k => k = c) w (w.setCell ⟨c, 1, none⟩ (.slice none 0 0)) := (Only.refl (fun k => k = c) w).setCell (p := ⟨c, 1, none⟩) (.inl rfl) _
  have HF := Lib.hid (show RL (w.setCell ⟨c, 1, none⟩ (.slice none 0 0)) c B true (.slice none 0 0) [] from ⟨h.blk.set_ 1 (.slice none 0 0), World.ownsRow_nil _ _ _ _, h.lt⟩)
  have HW := Lib.hid (own_only h.own ho (fun k e => by subst e; exact h.lt))
  have HO := Lib.hid ho
  clear h ho
  go_enter Try.func10, Try.ntmps10
  go_wp2
  go_ret2
  exact ⟨rfl, HF.out, HO.out, HW.out⟩
end Go.Proofs.Ythnefhkacgkacaa
