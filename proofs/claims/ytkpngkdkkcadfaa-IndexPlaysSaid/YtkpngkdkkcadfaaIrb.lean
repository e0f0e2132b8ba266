/- The document's own answer for package index: the list tells the index; Of. -/
import Derived.Test.YtkpngkdkkcadfaaIra
import Derived.Test.YtkpngkdkkcadfaaTakz
import Derived.IntWalk
namespace Go.Proofs.Ytkpngkdkkcadfaa
open Go.RowKit Mk

theorem Reads.takeS {w : World} {B size n : Nat} {A : Option Addr} {xs : List Value} (h : Reads w B size A n xs) {k : Nat} (hk : k ≤ n) : Reads w B size A k (xs.take (k * size)) := by
  have hm : k * size ≤ n * size := Nat.mul_le_mul_right size hk
  refine ⟨by rw [List.length_take, h.1, Nat.min_eq_left hm], fun h0 => ?_⟩
  obtain ⟨ad, e, hb, hc⟩ := h.2 (by omega)
  refine ⟨ad, e, hb, fun j u hu => hc j u ?_⟩
  rw [List.getElem?_take] at hu
  split at hu
  · exact hu
  · cases hu
section
variable {α : Type} {f : α → List Value} {s : Nat}
theorem flat_take (hf : ∀ x, (f x).length = s) : ∀ (k : Nat) (xs : List α), (xs.flatMap f).take (k * s) = (xs.take k).flatMap f
  | 0, xs => by simp
  | k + 1, [] => by simp
  | k + 1, a :: l => by
    have h1 : (k + 1) * s - s = k * s := by rw [Nat.succ_mul]; omega
    rw [List.flatMap_cons, List.take_append, List.take_of_length_le (by rw [hf, Nat.succ_mul]; omega), hf, h1, flat_take hf k l, List.take_succ_cons, List.flatMap_cons]
theorem flat_drop (hf : ∀ x, (f x).length = s) : ∀ (k : Nat) (xs : List α), (xs.flatMap f).drop (k * s) = (xs.drop k).flatMap f
  | 0, xs => by simp
  | k + 1, [] => by simp
  | k + 1, a :: l => by
    have h1 : (k + 1) * s - s = k * s := by rw [Nat.succ_mul]; omega
    rw [List.flatMap_cons, List.drop_append, List.drop_of_length_le (by rw [hf, Nat.succ_mul]; omega), hf, h1, flat_drop hf k l, List.drop_succ_cons, List.nil_append]
end
theorem own_form2 {w : World} {base size n : Nat} {e : TypeId} {v : Value} {xs : List Value} (h : w.ownsRow base e size v n xs) : ∃ A m c, v = .slice A m c := by
  rcases h.2 with ⟨rfl, _⟩ | ⟨g, cap, cur, rfl, _⟩
  · exact ⟨_, _, _, rfl⟩
  · exact ⟨_, _, _, rfl⟩
theorem infoN : (Try.prog.info? 55).map (fun i => (i.zero, i.size, i.bytes)) = some (some (.agg #[.int .i64 0, .complex .f64 0 0]), 2, 24) := by kernel_rfl
theorem ic_one (x : Is) : ∀ u ∈ ic x, u.oneCell' = true := fun u hu => by
  unfold ic at hu
  rcases List.mem_cons.1 hu with rfl | hu
  · rfl
  · rw [List.mem_singleton] at hu; subst hu; rfl
theorem ics_one {xs : List Is} : ∀ u ∈ xs.flatMap ic, u.oneCell' = true := fun u hu => by
  obtain ⟨x, _, hx⟩ := List.mem_flatMap.1 hu
  exact ic_one x u hx
theorem lrow_slice {w : World} {B : Nat} {v : Value} {xs : List Is} (h : LRow w B v xs) : ∃ A cc, v = .slice A xs.length cc ∧ xs.length ≤ cc ∧ Reads w w.heap.size 2 A xs.length (xs.flatMap ic) := by
  rcases h.2 with ⟨rfl, h0⟩ | ⟨g, cap, cur, rfl, _, _, hc, _⟩
  · have e : xs = [] := List.eq_nil_of_length_eq_zero h0
    subst e
    exact ⟨none, 0, rfl, Nat.le_refl _, Reads.none_⟩
  · exact ⟨_, _, rfl, hc, Reads.of_own h⟩
theorem reads_ic {w : World} {g : Nat} {t : TypeId} {x : Is} (h : Blk w g t #[.int .i64 x.1, cxV x.2]) : Reads w w.heap.size 2 (some ⟨g, 0, none⟩) 1 (ic x) := by
  refine ⟨rfl, fun _ => ⟨_, rfl, h.lt, fun j u hj => ?_⟩⟩
  match j, hj with
  | 0, hj => cases hj; exact (h.cell 0).trans rfl
  | 1, hj => cases hj; exact (h.cell 1).trans rfl
  | j + 2, hj => cases hj
theorem rof {w : World} {b cap : Nat} {g : Nat → Nat} (hp : Pg w b g) (hg : ∀ j, g j < 256) :
    Calls Try.prog 40 #[.slice (some ⟨b, 0, none⟩) 4096 cap] w fun e w' => e = .returned (.tuple #[cxV (dig g), .int .i64 0]) ∧ w = w' := by
  have h := refof_page b cap g w hp.2 hg
  rw [sre_eq hg, sim_eq hg] at h
  rw [dig_val]
  exact h

/-- The list tells the index. -/
def XSim (xs : List Is) (S : Ki → Option Cx) : Prop := xs.Pairwise (fun a b => a.1 < b.1) ∧ ∀ x z, (x, z) ∈ xs ↔ ∃ h, S ⟨x, h⟩ = some z
section
variable {xs : List Is} {S : Ki → Option Cx} {f : Int} {k : Nat} {r : Bool} {z : Cx}
theorem XSim.nil : XSim [] (fun _ => none) := ⟨List.Pairwise.nil, fun x z => ⟨fun h => (by cases h), fun ⟨_, h⟩ => (by cases h)⟩⟩
theorem XSim.wf (h : XSim xs S) {x : Is} (hx : x ∈ xs) : (Lit.int .i64 x.1).wf = true := ((h.2 x.1 x.2).1 hx).1
theorem XSim.at_ (h : XSim xs S) {i j : Nat} {x y : Is} (hx : xs[i]? = some x) (hy : xs[j]? = some y) : (i < j → x.1 < y.1) ∧ (x.1 < y.1 → i < j) := by
  obtain ⟨h1, e1⟩ := List.getElem?_eq_some_iff.1 hx
  obtain ⟨h2, e2⟩ := List.getElem?_eq_some_iff.1 hy
  refine ⟨fun hij => ?_, fun hl => ?_⟩
  · have := List.pairwise_iff_getElem.1 h.1 i j h1 h2 hij
    rw [e1, e2] at this; exact this
  · rcases Nat.lt_trichotomy i j with h3 | h3 | h3
    · exact h3
    · subst h3; rw [hx] at hy; cases hy; omega
    · have := List.pairwise_iff_getElem.1 h.1 j i h2 h1 h3
      rw [e1, e2] at this; omega
theorem XSim.len (h : XSim xs S) (hd : D12 S) : xs.length ≤ 12 := by
  have h1 : (xs.map (·.1)).Pairwise (· ≠ ·) := by
    rw [List.pairwise_map]
    exact h.1.imp fun {a b} hab e => by rw [e] at hab; omega
  have := int_len (m := (List.range 12).map fun i : Nat => (i : Int)) h1 fun k hk => by
    obtain ⟨x, hx, rfl⟩ := List.mem_map.1 hk
    obtain ⟨h2, e⟩ := (h.2 x.1 x.2).1 hx
    obtain ⟨h6, h7⟩ := hd _ _ e
    refine List.mem_map.2 ⟨x.1.toNat, List.mem_range.2 ?_, ?_⟩
    · simp only at h6 h7; omega
    · simp only at h6 h7; omega
  simpa using this
theorem AtL.isSome (h : AtL xs f k r) (hs : XSim xs S) (hf : (Lit.int .i64 f).wf = true) : r = (S ⟨f, hf⟩).isSome := by
  rw [Bool.eq_iff_iff, h.is]
  constructor
  · rintro ⟨x, hx, rfl⟩
    obtain ⟨_, e⟩ := (hs.2 x.1 x.2).1 (List.mem_of_getElem? hx)
    rw [e]; rfl
  · intro h1
    obtain ⟨z, hz⟩ := Option.isSome_iff_exists.1 h1
    obtain ⟨j, hj⟩ := List.mem_iff_getElem?.1 ((hs.2 f z).2 ⟨hf, hz⟩)
    rcases Nat.lt_trichotomy j k with h3 | h3 | h3
    · have h4 : f < f := h.lo j _ h3 hj
      omega
    · subst h3; exact ⟨_, hj, rfl⟩
    · have hkl : k < xs.length := by have := (List.getElem?_eq_some_iff.1 hj).1; omega
      obtain ⟨y, hy⟩ : ∃ y, xs[k]? = some y := ⟨_, List.getElem?_eq_getElem hkl⟩
      have h4 := h.hi y hy
      have h5 : y.1 < f := (hs.at_ hy hj).1 h3
      omega
theorem XSim.ins (h : XSim xs S) (hf : (Lit.int .i64 f).wf = true) (hk : AtL xs f k false) (hn : S ⟨f, hf⟩ = none) (z : Cx) : XSim (xs.take k ++ (f, z) :: xs.drop k) (putS S ⟨f, hf⟩ z) := by
  have hne : ∀ y, (f, y) ∉ xs := fun y hy => by
    obtain ⟨_, e⟩ := (h.2 f y).1 hy
    rw [hn] at e; cases e
  refine ⟨?_, fun x y => ?_⟩
  · rw [List.pairwise_append, List.pairwise_cons]
    have hhi : ∀ a ∈ xs.drop k, f < a.1 := fun a ha => by
      obtain ⟨j, hj⟩ := List.mem_iff_getElem?.1 ha
      rw [List.getElem?_drop] at hj
      have hkl : k < xs.length := by have := (List.getElem?_eq_some_iff.1 hj).1; omega
      obtain ⟨y, hy⟩ : ∃ y, xs[k]? = some y := ⟨_, List.getElem?_eq_getElem hkl⟩
      have h1 := hk.hi y hy
      have h2 : f ≠ a.1 := fun e => hne a.2 (by rw [e]; exact List.mem_of_getElem? hj)
      by_cases e : j = 0
      · subst e; rw [Nat.add_zero, hy] at hj; cases hj; omega
      · have := (h.at_ hy hj).1 (by omega)
        omega
    have hlo : ∀ a ∈ xs.take k, a.1 < f := fun a ha => by
      obtain ⟨j, hj⟩ := List.mem_iff_getElem?.1 ha
      rw [List.getElem?_take] at hj
      split at hj
      · exact hk.lo _ _ (by assumption) hj
      · cases hj
    refine ⟨h.1.sublist (List.take_sublist _ _), ⟨hhi, h.1.sublist (List.drop_sublist _ _)⟩, fun a ha b hb => ?_⟩
    rcases List.mem_cons.1 hb with rfl | hb
    · exact hlo a ha
    · have h1 := hlo a ha
      have h2 := hhi b hb
      omega
  · have e : (x, y) ∈ xs.take k ++ (f, z) :: xs.drop k ↔ (x, y) = (f, z) ∨ (x, y) ∈ xs := by
      rw [List.mem_append, List.mem_cons]
      constructor
      · rintro (h1 | h1 | h1)
        · exact .inr (List.mem_of_mem_take h1)
        · exact .inl h1
        · exact .inr (List.mem_of_mem_drop h1)
      · rintro (h1 | h1)
        · exact .inr (.inl h1)
        · rw [← List.take_append_drop k xs, List.mem_append] at h1
          rcases h1 with h1 | h1
          · exact .inl h1
          · exact .inr (.inr h1)
    rw [e, h.2 x y]
    unfold putS
    constructor
    · rintro (h1 | ⟨hx, h1⟩)
      · injection h1 with h1 h2
        subst h1 h2
        exact ⟨hf, if_pos rfl⟩
      · refine ⟨hx, ?_⟩
        rw [if_neg]
        · exact h1
        · intro e2; rw [e2, hn] at h1; cases h1
    · rintro ⟨hx, h1⟩
      by_cases e2 : (⟨x, hx⟩ : Ki) = ⟨f, hf⟩
      · rw [if_pos e2] at h1
        have e3 : x = f := congrArg Subtype.val e2
        have e4 : z = y := Option.some.inj h1
        subst e3 e4
        exact .inl rfl
      · rw [if_neg e2] at h1; exact .inr ⟨hx, h1⟩
theorem XSim.del (h : XSim xs S) (hf : (Lit.int .i64 f).wf = true) (hk : AtL xs f k true) : XSim (xs.take k ++ xs.drop (k + 1)) (delS S ⟨f, hf⟩) := by
  obtain ⟨⟨f', z⟩, hx, e⟩ := hk.is.1 rfl
  have e : f' = f := e
  subst e
  obtain ⟨hkl, hke⟩ := List.getElem?_eq_some_iff.1 hx
  have hsp : xs = xs.take k ++ (f', z) :: xs.drop (k + 1) := by
    have e := List.getElem_cons_drop (h := hkl)
    rw [hke] at e
    rw [e, List.take_append_drop]
  have hpw := h.1
  rw [hsp, List.pairwise_append, List.pairwise_cons] at hpw
  obtain ⟨h1, ⟨h2, h3⟩, h4⟩ := hpw
  refine ⟨?_, fun x y => ?_⟩
  · rw [List.pairwise_append]
    exact ⟨h1, h3, fun a ha b hb => h4 a ha b (List.mem_cons_of_mem _ hb)⟩
  · have em : (x, y) ∈ xs ↔ (x, y) ∈ xs.take k ∨ (x, y) = (f', z) ∨ (x, y) ∈ xs.drop (k + 1) := by
      rw [← List.mem_cons, ← List.mem_append, ← hsp]
    have hm := h.2 x y
    rw [em] at hm
    rw [List.mem_append]
    unfold delS
    by_cases e2 : x = f'
    · subst e2
      constructor
      · rintro (h5 | h5)
        · have := h4 _ h5 _ (List.mem_cons_self ..)
          simp only at this; omega
        · have := h2 _ h5
          simp only at this; omega
      · rintro ⟨hx, h5⟩
        rw [if_pos rfl] at h5; cases h5
    · have e3 : ∀ hx, (⟨x, hx⟩ : Ki) ≠ ⟨f', hf⟩ := fun hx e => e2 (congrArg Subtype.val e)
      constructor
      · intro h5
        obtain ⟨hx, h6⟩ := hm.1 (h5.elim .inl (fun h => .inr (.inr h)))
        exact ⟨hx, by rw [if_neg (e3 hx)]; exact h6⟩
      · rintro ⟨hx, h6⟩
        rw [if_neg (e3 hx)] at h6
        rcases hm.2 ⟨hx, h6⟩ with h5 | h5 | h5
        · exact .inl h5
        · injection h5 with h5 _; exact absurd h5 e2
        · exact .inr h5
end
/-- Behind a call that turns the reference. -/
def RxTo (w w' : World) (W c : Nat) (xs : List Is) (G : Int → Nat → Nat) (N : Nat → Prop) : Prop := ∃ vF v N', RX w' W c vF v xs G N' ∧ Only (fun g => g = c) w w' ∧ ∀ g, N' g → N g ∨ w.heap.size ≤ g
theorem RxTo.same {w w' : World} {W c : Nat} {vF v : Value} {xs : List Is} {G : Int → Nat → Nat} {N : Nat → Prop} (h : RX w W c vF v xs G N) (hb : Below w.heap.size w w') : RxTo w w' W c xs G N := ⟨vF, v, N, h.below hb, only_fresh hb, fun _ hg => .inl hg⟩
end Go.Proofs.Ytkpngkdkkcadfaa
