/- Package index: an index as a function of frames; New, Has, Count. -/
import Derived.Test.YtkpngkdkkcadfaaPhe
import Derived.Test.YtkpngkdkkcadfaaMape
import Derived.Test.YtkpngkdkkcadfaaDig
import Derived.Test.YtkpngkdkkcadfaaSlc
namespace Go.Proofs.Ytkpngkdkkcadfaa
open Go.RowKit Mk Flo

theorem wl_congr {g g' : Nat → Nat} {k : Nat} : ∀ i, (∀ j, j < i → g (8 * k + j) = g' (8 * k + j)) → wl g k i = wl g' k i
  | 0, _ => rfl
  | i + 1, h => by
    show wl g k i + g (8 * k + i) * 2 ^ (8 * i) = wl g' k i + g' (8 * k + i) * 2 ^ (8 * i)
    rw [wl_congr i fun j hj => h j (by omega), h i (by omega)]
theorem wv_congr {g g' : Nat → Nat} {k : Nat} (h : ∀ j, j < 8 → g (8 * k + j) = g' (8 * k + j)) : wv g k = wv g' k := wl_congr 8 h
theorem SRe_congr {g g' : Nat → Nat} : ∀ k, (∀ j, j < 8 * k → g j = g' j) → SRe g k = SRe g' k ∧ SIm g k = SIm g' k
  | 0, _ => ⟨rfl, rfl⟩
  | k + 1, h => by
    obtain ⟨h1, h2⟩ := SRe_congr k fun j hj => h j (by omega)
    have h3 : wv g k = wv g' k := wv_congr fun j hj => h _ (by omega)
    exact ⟨by show SRe g k + _ = SRe g' k + _; rw [h1, h3], by show SIm g k + _ = SIm g' k + _; rw [h2, h3]⟩
def gm (g : Nat → Nat) : Nat → Nat := fun j => g j % 256
theorem gm_lt (g : Nat → Nat) : Bytes (gm g) := fun j => Nat.mod_lt _ (by omega)
theorem gm_eq {g : Nat → Nat} (h : ∀ j, g j < 256) : gm g = g := funext fun j => Nat.mod_eq_of_lt (h j)
def sre (g : Nat → Nat) : Int := SRe (gm g) 512
def sim (g : Nat → Nat) : Int := SIm (gm g) 512
theorem sre_eq {g : Nat → Nat} (h : ∀ j, g j < 256) : SRe g 512 = sre g := by unfold sre; rw [gm_eq h]
theorem sim_eq {g : Nat → Nat} (h : ∀ j, g j < 256) : SIm g 512 = sim g := by unfold sim; rw [gm_eq h]
theorem S_cx (g : Nat → Nat) : (sre g).natAbs ≤ 2 ^ 53 ∧ (sim g).natAbs ≤ 2 ^ 53 := by
  have h := S_bd (gm g) (gm_lt g) 512
  unfold sre sim
  generalize SRe (gm g) 512 = x at *
  generalize SIm (gm g) 512 = y at *
  obtain ⟨⟨h1, h2⟩, h3, h4⟩ := h
  constructor <;> omega
theorem S_cong {g g' : Nat → Nat} (h : ∀ j, j < 4096 → g j = g' j) : sre g = sre g' ∧ sim g = sim g' := by
  unfold sre sim
  exact SRe_congr 512 fun j hj => by unfold gm; rw [h j (by omega)]
/-- A page's sum. -/
def dig (g : Nat → Nat) : Cx := ⟨(sre g, sim g), S_cx g⟩
theorem dig_congr {g g' : Nat → Nat} (h : ∀ j, j < 4096 → g j = g' j) : dig g = dig g' := cx_ext (S_cong h).1 (S_cong h).2
theorem dig_val (g : Nat → Nat) : cxV (dig g) = .complex .f64 (F (sre g)) (F (sim g)) := rfl
theorem dof {w : World} {b cap : Nat} {g : Nat → Nat} (hp : Pg w b g) (hg : ∀ j, g j < 256) :
    Calls Try.prog 29 #[.slice (some ⟨b, 0, none⟩) 4096 cap] w fun e w' => e = .returned (.tuple #[cxV (dig g), .int .i64 0]) ∧ w = w' := by
  have h := of_page b cap g w hp.2 hg
  rw [sre_eq hg, sim_eq hg] at h
  rw [dig_val]
  exact h
end Go.Proofs.Ytkpngkdkkcadfaa
