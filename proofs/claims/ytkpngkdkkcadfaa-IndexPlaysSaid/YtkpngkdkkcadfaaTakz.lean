/- A region that draws its order and whose last operation writes what it loaded: as the library's law on held conditions (Derived/OrdersHeld), but behind the last operation, which waits for all others, the condition need not hold. -/
import Derived.Test.YtkpngkdkkcadfaaTake
namespace Go.Proofs.Ytkpngkdkkcadfaa
open Go
section
variable {P : Program} {ops : Array Oper} {Q : Exit → Act → World → Prop} {md : Region.Mode} {S : World → Prop} {z : Nat}

/-- Operation z waits for operation i. -/
def edgeB (md : Region.Mode) (ops : Array Oper) (z i : Nat) : Bool :=
  match ops[z]? with
  | some oz => oz.after.any fun e => Region.binds md e && e.on == i
  | none => false

theorem last_alone {i : Nat} (hz : edgeB md ops z i = true) {listed : Array Bool} (h : z ∈ Region.ready md ops listed) (hi : i ∈ Region.ready md ops listed) : False := by
  obtain ⟨_, oz, hoz, hall⟩ := mem_ready.1 h
  obtain ⟨h0, _⟩ := mem_ready.1 hi
  unfold edgeB at hz
  rw [hoz] at hz
  simp only [Array.any_eq_true, Bool.and_eq_true, beq_iff_eq] at hz
  obtain ⟨k, hk, hb, he⟩ := hz
  have h1 := hall _ (Array.getElem_mem hk) hb
  rw [he] at h1
  rcases Nat.lt_or_ge i listed.size with h' | h'
  · simp [h'] at h0 h1; rw [h0] at h1; cases h1
  · simp [Array.getElem?_eq_none h'] at h1

def wpAnyZ (P : Program) (md : Region.Mode) (ops : Array Oper) (Q : Exit → Act → World → Prop) (S : World → Prop) (z : Nat) : Nat → Array Bool → Act → World → Prop
  | 0, listed, a, w => Region.ready md ops listed = [] ∧ Q .normal a w
  | fuel + 1, listed, a, w =>
    (Region.ready md ops listed = [] → Q .normal a w) ∧
    ∀ i ∈ Region.ready md ops listed, wpOp P ops Q i (fun a' w' => (i = z ∨ S w') ∧ wpAnyZ P md ops Q S z fuel (listed.setIfInBounds i true) a' w') a w

theorem wpAny_of_Z : ∀ (fuel : Nat) (listed : Array Bool) (a : Act) (w : World), wpAnyZ P md ops Q S z fuel listed a w → wpAny P md ops Q fuel listed a w
  | 0, _, _, _, h => h
  | fuel + 1, _, _, _, h => ⟨h.1, fun i hi => wpOp_mono (fun a' w' h' => wpAny_of_Z fuel _ a' w' h'.2) (h.2 i hi)⟩

theorem firstZ {i : Nat} (hz : edgeB md ops z i = true) {oi : Oper} {v : Value} (hi : ops[i]? = some oi) (hsel : ∀ (j : Nat) (o : Oper) cs b, ops[j]? = some o → o.op ≠ .select cs b)
    (hQ : ∀ c a w, Q (.panic c) (a.put oi.dst v) w → Q (.panic c) a w) :
    ∀ (fuel : Nat) (listed : Array Bool) (a : Act) (w : World),
      (∀ j oj, ops[j]? = some oj → j ≠ i → listed.getD j true = false → (∀ e ∈ oj.after, Region.binds md e = true → e.on ≠ i) → oi.apart ops oj = true) →
      i ∈ Region.ready md ops listed → YieldsIf P ops S oi v a → S w →
      wpAnyZ P md ops Q S z fuel (listed.setIfInBounds i true) (a.put oi.dst v) w → wpAnyZ P md ops Q S z (fuel + 1) listed a w := by
  intro fuel
  induction fuel with
  | zero =>
    intro listed a w _ hr hy hS H
    refine ⟨fun h => (by rw [h] at hr; cases hr), fun j hj => ?_⟩
    by_cases hji : j = i
    · subst hji; exact hy.wpOp hi hS ⟨.inr hS, H⟩
    · have := ready_mono hj hji
      rw [H.1] at this
      cases this
  | succ fuel ih =>
    intro listed a w hfree hr hy hS H
    refine ⟨fun h => (by rw [h] at hr; cases hr), fun j hj => ?_⟩
    by_cases hji : j = i
    · subst hji; exact hy.wpOp hi hS ⟨.inr hS, H⟩
    · have hjz : j ≠ z := by
        rintro rfl
        exact last_alone hz hj hr
      have h1 := H.2 j (ready_mono hj hji)
      obtain ⟨hjun, oj, hoj, hall⟩ := mem_ready.1 hj
      have hnot : ∀ e ∈ oj.after, Region.binds md e = true → e.on ≠ i := fun e he hb heq => by
        have h1 := hall e he hb
        have h0 := (mem_ready.1 hr).1
        rw [heq] at h1
        rcases Nat.lt_or_ge i listed.size with h' | h'
        · simp [h'] at h0 h1; rw [h0] at h1; cases h1
        · simp [Array.getElem?_eq_none h'] at h1
      have h2 := wpOp_putIf hoj (hfree j oj hoj hji hjun hnot) (fun cs b => hsel i oi cs b hi) (fun cs b => hsel j oj cs b hoj) hQ hy h1
      have hfree' : ∀ k ok, ops[k]? = some ok → k ≠ i → (listed.setIfInBounds j true).getD k true = false →
          (∀ e ∈ ok.after, Region.binds md e = true → e.on ≠ i) → oi.apart ops ok = true := fun k ok hk hki hun hno => by
        refine hfree k ok hk hki ?_ hno
        by_cases hjk : j = k
        · subst hjk; exact hjun
        · rw [getD_set_ne true hjk] at hun; exact hun
      refine wpOp_mono (fun a' w' h3 => ?_) h2
      have hS' : S w' := h3.2.1.resolve_left hjz
      refine ⟨.inr hS', ih (listed.setIfInBounds j true) a' w' hfree' (ready_mono hr (Ne.symm hji)) h3.1 hS' ?_⟩
      rw [Array.setIfInBounds_comm _ _ hji]
      exact h3.2.2

/-- Operation i yields its value in every world that meets S: taken first. -/
theorem takeYZ (i : Nat) {d : Option Tmp} {op : Op} {t : TypeId} {p : String} {af : Array Edge} {g : Option (Nat × Bool)} {v : Value} {fuel : Nat} {listed : Array Bool} {a : Act} {w : World}
    (hz : edgeB md ops z i = true) (hi : ops[i]? = some ⟨d, op, t, p, af, g⟩) (hs : Region.noSelect ops = true) (hf : Region.free md ops listed i = true) (hr : (Region.ready md ops listed).contains i = true)
    (hQ : ∀ c a w, Q (.panic c) (a.put d v) w → Q (.panic c) a w) (hw : Region.wanted ⟨d, op, t, p, af, g⟩ (yielded ops a.tmps) = true) (hS : S w)
    (hy : ∀ w, S w → (execOp a.eval ⟨d, op, t, p, af, g⟩).run P w = .ok (.value v) w)
    (h : wpAnyZ P md ops Q S z fuel (listed.setIfInBounds i true) (a.put d v) w) : wpAnyZ P md ops Q S z (fuel + 1) listed a w :=
  firstZ hz hi (Region.noSelect_spec hs) hQ fuel listed a w (Region.free_spec hi hf) (by simpa using hr) (Or.inl ⟨hw, hy⟩) hS h

/-- Operation i is not wanted: passed by. -/
theorem takeNZ (i : Nat) {d : Option Tmp} {op : Op} {t : TypeId} {p : String} {af : Array Edge} {g : Option (Nat × Bool)} {fuel : Nat} {listed : Array Bool} {a : Act} {w : World}
    (hz : edgeB md ops z i = true) (hi : ops[i]? = some ⟨d, op, t, p, af, g⟩) (hs : Region.noSelect ops = true) (hf : Region.free md ops listed i = true) (hr : (Region.ready md ops listed).contains i = true)
    (hQ : ∀ c a w, Q (.panic c) (a.put d undef) w → Q (.panic c) a w) (hw : Region.wanted ⟨d, op, t, p, af, g⟩ (yielded ops a.tmps) = false) (hS : S w)
    (h : wpAnyZ P md ops Q S z fuel (listed.setIfInBounds i true) (a.put d undef) w) : wpAnyZ P md ops Q S z (fuel + 1) listed a w :=
  firstZ hz hi (Region.noSelect_spec hs) hQ fuel listed a w (Region.free_spec hi hf) (by simpa using hr) (Or.inr ⟨hw, rfl⟩) hS h

/-- Each of these comes up next. -/
def AllZ (P : Program) (md : Region.Mode) (ops : Array Oper) (Q : Exit → Act → World → Prop) (S : World → Prop) (z : Nat) (fuel : Nat) (listed : Array Bool) (a : Act) (w : World) (rs : List Nat) : Prop :=
  ∀ i ∈ rs, wpOp P ops Q i (fun a' w' => (i = z ∨ S w') ∧ wpAnyZ P md ops Q S z fuel (listed.setIfInBounds i true) a' w') a w
theorem nilZ {fuel : Nat} {listed : Array Bool} {a : Act} {w : World} : AllZ P md ops Q S z fuel listed a w [] := fun _ h => by cases h
theorem consZ (i : Nat) {d : Option Tmp} {op : Op} {t : TypeId} {p : String} {af : Array Edge} {g : Option (Nat × Bool)} {fuel : Nat} {listed : Array Bool} {a : Act} {w : World} {rs : List Nat}
    (hi : ops[i]? = some ⟨d, op, t, p, af, g⟩) (hw : Region.wanted ⟨d, op, t, p, af, g⟩ (yielded ops a.tmps) = true)
    (h : ∀ K' : Act → World → Prop, Shut (∀ a w, S w → (S w → wpAnyZ P md ops Q S z fuel (listed.setIfInBounds i true) a w) → K' a w) → Oper.wp P ⟨d, op, t, p, af, g⟩ a w K' Q)
    (hs : AllZ P md ops Q S z fuel listed a w rs) : AllZ P md ops Q S z fuel listed a w (i :: rs) := fun j hj => by
  rcases List.mem_cons.1 hj with rfl | hj
  · exact wpOp_step hi (fun K' hK => by rw [if_pos hw]; exact h K' (fun a w hS hW => hK a w ⟨.inr hS, hW hS⟩))
  · exact hs j hj
theorem readyZ {rs : List Nat} {fuel : Nat} {listed : Array Bool} {a : Act} {w : World} (hr : Region.ready md ops listed = rs) (hne : rs ≠ [])
    (h : AllZ P md ops Q S z fuel listed a w rs) : wpAnyZ P md ops Q S z (fuel + 1) listed a w := ⟨fun h0 => absurd (hr ▸ h0) hne, hr ▸ h⟩
/-- Operation i alone may come up: it is carried out, and S is shown anew behind it. -/
theorem stepZ (i : Nat) {d : Option Tmp} {op : Op} {t : TypeId} {p : String} {af : Array Edge} {g : Option (Nat × Bool)} {fuel : Nat} {listed : Array Bool} {a : Act} {w : World}
    (hi : ops[i]? = some ⟨d, op, t, p, af, g⟩) (hr : Region.ready md ops listed = [i]) (hw : Region.wanted ⟨d, op, t, p, af, g⟩ (yielded ops a.tmps) = true)
    (h : ∀ K' : Act → World → Prop, Shut (∀ a w, S w → (S w → wpAnyZ P md ops Q S z fuel (listed.setIfInBounds i true) a w) → K' a w) → Oper.wp P ⟨d, op, t, p, af, g⟩ a w K' Q) : wpAnyZ P md ops Q S z (fuel + 1) listed a w :=
  readyZ hr (by simp) (consZ i hi hw h nilZ)
/-- The last operation: nothing need hold behind it. -/
theorem endZ {d : Option Tmp} {op : Op} {t : TypeId} {p : String} {af : Array Edge} {g : Option (Nat × Bool)} {fuel : Nat} {listed : Array Bool} {a : Act} {w : World}
    (hi : ops[z]? = some ⟨d, op, t, p, af, g⟩) (hr : Region.ready md ops listed = [z]) (hr2 : Region.ready md ops (listed.setIfInBounds z true) = []) (hw : Region.wanted ⟨d, op, t, p, af, g⟩ (yielded ops a.tmps) = true)
    (h : ∀ K' : Act → World → Prop, Shut (∀ a w, Q .normal a w → K' a w) → Oper.wp P ⟨d, op, t, p, af, g⟩ a w K' Q) : wpAnyZ P md ops Q S z (fuel + 1) listed a w := by
  refine readyZ hr (by simp) (fun j hj => ?_)
  obtain rfl : j = z := by simpa using hj
  refine wpOp_step hi (fun K' hK => ?_)
  rw [if_pos hw]
  refine h K' (fun a w hQn => hK a w ⟨.inl rfl, ?_⟩)
  cases fuel with
  | zero => exact ⟨hr2, hQn⟩
  | succ f => exact ⟨fun _ => hQn, by rw [hr2]; simp⟩
theorem beginZ {id : Nat} {a : Act} {w : World} (hm : P.follows .mixedOrders = true) (hS : S w.drew)
    (h : S w.drew → wpAnyZ P .any ops Q S z ops.size (Array.replicate ops.size false) a w.drew) : (Code.region id ops true).wp P Q a w :=
  wp_region_any hm (wpAny_of_Z _ _ _ _ (h hS))
end
end Go.Proofs.Ytkpngkdkkcadfaa
