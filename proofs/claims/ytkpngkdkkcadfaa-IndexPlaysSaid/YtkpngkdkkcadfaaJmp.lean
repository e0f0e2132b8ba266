/- A scope with labels through which the run goes in a known number of jumps. -/
import Derived.Test.YtkpngkdkkcadfaaRows
import Derived.ScopeJumps
import Derived.Scope
namespace Go.Proofs.Ytkpngkdkkcadfaa
open Go
/-- As Q; by a goto: on from its label, n jumps at most. -/
def Jn (P : Program) (c : Code) (Q : Exit → Act → World → Prop) : Nat → Exit → Act → World → Prop
  | n + 1, .goto l, a, w => ∃ rest, findLabel c l = some rest ∧ rest.wp P (Jn P c Q n) a w
  | 0, .goto _, _, _ => False
  | _, e, a, w => Q e a w
theorem jn_goto {P : Program} {c : Code} {Q : Exit → Act → World → Prop} {n l : Nat} {a : Act} {w : World} {rest : Code} (hf : findLabel c l = some rest) (h : rest.wp P (Jn P c Q n) a w) : Jn P c Q (n + 1) (.goto l) a w := ⟨rest, hf, h⟩
theorem jn_ret {P : Program} {c : Code} {Q : Exit → Act → World → Prop} {n : Nat} {a : Act} {w : World} (h : Q .ret a w) : Jn P c Q n .ret a w := by
  cases n <;> exact h
theorem wp_scope_n {P : Program} {c : Code} {Q : Exit → Act → World → Prop} (n : Nat) {a : Act} {w : World} (h : c.wp P (Jn P c Q n) a w) : (Code.scope c).wp P Q a w := by
  intro b k cs
  have key : ∀ n (c' : Code) a w, c'.wp P (Jn P c Q n) a w → ∃ e a' w', Q e a' w' ∧ Arrives P (lone (b.at a (.code c' :: .inScope c :: k)) cs w) b k cs e a' w' := by
    intro n
    induction n with
    | zero =>
      intro c' a w h
      obtain ⟨e, a₁, w₁, hq, harr⟩ := h b (.inScope c :: k) cs
      cases e with
      | normal => exact ⟨.normal, a₁, w₁, hq, Steps.trans harr (.one step_inScope)⟩
      | exit id => exact ⟨.exit id, a₁, w₁, hq, fun k' hk => harr k' (by simp [exitTo, hk])⟩
      | goto l => exact hq.elim
      | ret => exact ⟨_, a₁, w₁, hq, harr⟩
      | panic ch => exact ⟨_, a₁, w₁, hq, harr⟩
      | outgrown => exact ⟨_, a₁, w₁, hq, harr⟩
    | succ n ih =>
      intro c' a w h
      obtain ⟨e, a₁, w₁, hq, harr⟩ := h b (.inScope c :: k) cs
      cases e with
      | normal => exact ⟨.normal, a₁, w₁, hq, Steps.trans harr (.one step_inScope)⟩
      | exit id => exact ⟨.exit id, a₁, w₁, hq, fun k' hk => harr k' (by simp [exitTo, hk])⟩
      | goto l =>
        obtain ⟨rest, hf, hw⟩ := hq
        obtain ⟨e₂, a₂, w₂, hq₂, harr₂⟩ := ih rest a₁ w₁ hw
        have hg : gotoIn l (.inScope c :: k) = some (.code rest :: .inScope c :: k) := by simp [gotoIn, hf]
        exact ⟨e₂, a₂, w₂, hq₂, .of_steps (harr _ hg) harr₂⟩
      | ret => exact ⟨_, a₁, w₁, hq, harr⟩
      | panic ch => exact ⟨_, a₁, w₁, hq, harr⟩
      | outgrown => exact ⟨_, a₁, w₁, hq, harr⟩
  obtain ⟨e, a', w', hq, harr⟩ := key n c a w h
  refine ⟨e, a', w', hq, ?_⟩
  exact .of_steps (.one step_scope) harr
end Go.Proofs.Ytkpngkdkkcadfaa
