/- slices.SortStableFunc of places by their heats: fewer than 20. -/
import Derived.Test.YtghniddefhdmmaaHtd
namespace Go.Proofs.Ytghniddefhdmmaa
open Go.RowKit Flo

abbrev cmpF (hp : Nat) : Value := .func (.func 21) #[] #[.pointer (some ⟨hp, 0, none⟩)]

/-- The library's stable sort serves for at most m places. -/
def StableOk (m : Nat) : Prop := ∀ (base g n cap hp hr : Nat) (hs : List (Int × Int)) (d : List Int) (w : World), RowX w base g n cap d → HMem w hp hr n hs → g ≠ hp ∧ g ≠ hr → (∀ x ∈ d, 0 ≤ x ∧ x < n) →
  (∀ p q, 0 ≤ p → p < q → q < n → ele d p < ele d q) → n ≤ m →
  Calls Try.prog 20 #[.slice (some ⟨g, 0, none⟩) n cap, cmpF hp] w fun e w' => e = .returned (.tuple #[]) ∧ ∃ d', RowI w base g n cap d 0 n d' w' ∧ Srtd (d'.map (lex hs)) 0 n

set_option maxRecDepth 100000 in
set_option maxHeartbeats 4000000 in
theorem stable_small (base g n cap hp hr : Nat) (hs : List (Int × Int)) (d : List Int) (w : World) (h : RowX w base g n cap d) (hm : HMem w hp hr n hs) (hne : g ≠ hp ∧ g ≠ hr) (hix : ∀ x ∈ d, 0 ≤ x ∧ x < n)
    (hrise : ∀ p q, 0 ≤ p → p < q → q < n → ele d p < ele d q) (hn : n < 20) :
    Calls Try.prog 27 #[.slice (some ⟨g, 0, none⟩) n cap, .int .i64 n, cmpF hp] w fun e w' => e = .returned (.tuple #[]) ∧ ∃ d', RowI w base g n cap d 0 n d' w' ∧ Srtd (d'.map (lex hs)) 0 n := by
  have C := Lib.hid (ins_h base g 0 n cap 0 n hp hr hs rfl d w h hm hne hix hrise (Nat.zero_le _) (Nat.le_refl _) (by omega))
  clear h hm hne hix hrise
  have h1 : decide ((20 : Int) ≤ (n : Int)) = false := by simp; omega
  have h2 : decide ((20 : Int) < (n : Int)) = false := by simp; omega
  go_enter Try.func27, Try.ntmps27
  go_wp2_with fail
  go_loopw [7, 8] (fun a b wr => a = .int .i64 0 ∧ b = .int .i64 20 ∧ wr = w) (fun _ _ _ => 0)
  case atStart => exact ⟨rfl, rfl, rfl⟩
  case round =>
    obtain ⟨rfl, rfl, rfl⟩ := hrel
    go_wp2_with fail
    refine C.out.mono ?_; rintro e w1 ⟨rfl, hfin⟩
    have HF := Lib.hid hfin
    clear hfin
    go_wp2_with fail
    obtain ⟨wo, hwo⟩ : ∃ wo : World, wo = w1 := ⟨_, rfl⟩
    go_loopw [6, 7, 8, 9] (fun s a b m wr2 => s = .int .i64 20 ∧ wr2 = w1) (fun _ _ _ _ _ => 0)
    case atStart => exact ⟨rfl, rfl⟩
    case round =>
      obtain ⟨rfl, rfl⟩ := hrel
      go_wp2
      go_end0
      exact ⟨rfl, HF.out⟩

theorem stableOk19 : StableOk 19 := by
  intro base g n cap hp hr hs d w h hm hne hix hrise hn
  have C := Lib.hid (stable_small base g n cap hp hr hs d w h hm hne hix hrise (by omega))
  clear h hm hne hix hrise
  go_enter Try.func20, Try.ntmps20
  go_wp2_with fail
  refine C.out.mono ?_; rintro e w1 ⟨rfl, hfin⟩
  have HF := Lib.hid hfin
  clear hfin
  go_wp2
  go_end0
  exact ⟨rfl, HF.out⟩
end Go.Proofs.Ytghniddefhdmmaa
