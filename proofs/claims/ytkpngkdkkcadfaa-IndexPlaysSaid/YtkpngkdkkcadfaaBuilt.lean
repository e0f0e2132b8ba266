/- Words for lists that a call builds: lengths, what reads, what is kept. -/
import Derived.Test.YtkpngkdkkcadfaaOnly
import Derived.WalkKit
namespace Go.Proofs.Ytkpngkdkkcadfaa
open Go.RowKit Mf

theorem sub_len {l m : List Int} (h : l.Pairwise (· ≠ ·)) (hs : ∀ k ∈ l, k ∈ m) : l.length ≤ m.length := by
  induction l generalizing m with
  | nil => exact Nat.zero_le _
  | cons x xs ih =>
    rw [List.pairwise_cons] at h
    have hx : x ∈ m := hs x (List.mem_cons_self)
    have := ih (m := m.erase x) h.2 (fun k hk => (List.mem_erase_of_ne (h.1 k hk).symm).2 (hs k (List.mem_cons_of_mem _ hk)))
    rw [List.length_erase_of_mem hx] at this
    have := List.length_pos_of_mem hx
    simp only [List.length_cons]
    omega

theorem wf_small {k : Nat} (h : k ≤ 1048576) : (Lit.int .i64 (k : Int)).wf = true := by
  simp only [Lit.wf, IntKind.min, IntKind.max, Bool.and_eq_true]
  constructor <;> simp [IntKind.bits, IntKind.signed] <;> omega

theorem reads_one (w : World) (o : Obj) (v : Value) (t : TypeId) : Reads ((w.alloc o).alloc (.cells #[v] t)) ((w.alloc o).alloc (.cells #[v] t)).heap.size 1 (some ⟨w.heap.size + 1, 0, none⟩) 1 [v] := by
  refine ⟨rfl, fun _ => ⟨_, rfl, by simp, fun j u hj => ?_⟩⟩
  cases j with
  | zero =>
    cases hj
    exact World.cell?_alloc_at _ _ _ _ (by simp)
  | succ j => cases hj

theorem ownsRow_mono {w : World} {base base' size n : Nat} {e : TypeId} {v : Value} {xs : List Value} (h : w.ownsRow base e size v n xs) (hb : base' ≤ base) : w.ownsRow base' e size v n xs := by
  obtain ⟨h1, h2⟩ := h
  refine ⟨h1, ?_⟩
  rcases h2 with h2 | ⟨g, cap, cur, e1, e2, e3⟩
  · exact .inl h2
  · exact .inr ⟨g, cap, cur, e1, Nat.le_trans hb e2, e3⟩

theorem reads_one1 (w : World) (v : Value) (t : TypeId) : Reads (w.alloc (.cells #[v] t)) (w.alloc (.cells #[v] t)).heap.size 1 (some ⟨w.heap.size, 0, none⟩) 1 [v] := by
  refine ⟨rfl, fun _ => ⟨_, rfl, by simp, fun j u hj => ?_⟩⟩
  cases j with
  | zero =>
    cases hj
    exact World.cell?_alloc_at _ _ _ _ (by simp)
  | succ j => cases hj

theorem own_below {w w' : World} {base size n : Nat} {e : TypeId} {v : Value} {xs : List Value} (h : w.ownsRow base e size v n xs) (hb : Below w.heap.size w w') : w'.ownsRow base e size v n xs :=
  h.kept (only_of_below hb none) (by cases v.ownBlock with | none => exact .inl rfl | some g => exact .inr (fun e => by cases e))


theorem own_only {S : Nat → Prop} {w w' : World} {base size n : Nat} {e : TypeId} {v : Value} {xs : List Value} (h : w.ownsRow base e size v n xs) (ho : Only S w w') (hS : ∀ k, S k → k < base) : w'.ownsRow base e size v n xs := by
  obtain ⟨h1, h2⟩ := h
  refine ⟨h1, ?_⟩
  rcases h2 with h2 | ⟨g, cap, cur, e1, e2, e3, e4⟩
  · exact .inl h2
  · have hlt : g < w.heap.size := (Array.getElem?_eq_some_iff.1 e3).1
    exact .inr ⟨g, cap, cur, e1, e2, (ho.block g hlt (fun hs => by have := hS g hs; omega)).trans e3, e4⟩
end Go.Proofs.Ytkpngkdkkcadfaa
