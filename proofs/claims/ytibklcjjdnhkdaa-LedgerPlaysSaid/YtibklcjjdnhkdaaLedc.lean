/- What has and Count of package ledger do: contracts. -/
import Derived.Test.YtibklcjjdnhkdaaLedd
namespace Go.Proofs.Ytibklcjjdnhkdaa
open Go.RowKit Mf

/-- Is an entry of a state and a party? -/
def hasS (x : Int × Int) (s p : Int) : Bool := x.1 == s && (decide (p < 0) || x.2 == p)

set_option maxHeartbeats 400000 in
theorem has_any (x : Int × Int) (s p : Int) (w : World) :
    Calls Try.prog 22 #[.agg #[.int .i64 x.1, .int .i64 x.2], .int .i64 s, .int .i64 p] w fun e w' => e = .returned (.bool (hasS x s p)) ∧ Below w.heap.size w w' := by
  obtain ⟨a, b⟩ := x
  by_cases h1 : a = s
  · subst h1
    by_cases h2 : p < 0
    · go_enter Try.func22, Try.ntmps22
      go_wp2
      go_ret
      exact ⟨by simp [hasS, h2], (Below.refl _ _).alloc (Nat.le_refl _) _⟩
    · go_enter Try.func22, Try.ntmps22
      go_wp2
      go_ret
      exact ⟨by simp [hasS]; omega, (Below.refl _ _).alloc (Nat.le_refl _) _⟩
  · have h1' : (a == s) = false := by simpa using h1
    go_enter Try.func22, Try.ntmps22
    go_wp2
    go_ret
    exact ⟨by simp [hasS, h1], (Below.refl _ _).alloc (Nat.le_refl _) _⟩

/-- How many keys have come and are of them. -/
def cntK (ks : List Int) (left : Int → Bool) (f : Int → Option (Int × Int)) (s p : Int) : Nat := (ks.filter fun k => !left k && hasS (ent f k) s p).length

theorem filter_one {ks : List Int} (hp : ks.Pairwise (· ≠ ·)) (k : Int) (hk : k ∈ ks) (a : Int → Bool) (h : Int → Bool) (ha : a k = true) :
    (ks.filter fun j => !(a j && !(j == k)) && h j).length = (ks.filter fun j => !a j && h j).length + (if h k then 1 else 0) := by
  induction ks with
  | nil => cases hk
  | cons x xs ih =>
    rw [List.pairwise_cons] at hp
    by_cases hx : x = k
    · subst hx
      have hno : ∀ j ∈ xs, (j == x) = false := fun j hj => by simpa using fun e => hp.1 j hj e.symm
      have e : (xs.filter fun j => !(a j && !(j == x)) && h j) = xs.filter fun j => !a j && h j := List.filter_congr fun j hj => by simp [hno j hj]
      simp only [List.filter_cons, e, ha, beq_self_eq_true]
      cases h x <;> simp
    · have hk' : k ∈ xs := by
        rcases List.mem_cons.1 hk with e | e
        · exact absurd e.symm hx
        · exact e
      have hx' : (x == k) = false := by simpa using hx
      have := ih hp.2 hk'
      simp only [List.filter_cons, hx', Bool.not_false, Bool.and_true]
      cases (!a x && h x) <;> simp only [Bool.false_eq_true, if_true, if_false, List.length_cons, this] <;> omega

theorem cntK_step {ks : List Int} (hp : ks.Pairwise (· ≠ ·)) {k : Int} (hk : k ∈ ks) {left : Int → Bool} (hl : left k = true) (f : Int → Option (Int × Int)) (s p : Int) :
    cntK ks (fun j => left j && !(j == k)) f s p = cntK ks left f s p + (if hasS (ent f k) s p then 1 else 0) := filter_one hp k hk left _ hl

theorem cntK_start {ks : List Int} {left : Int → Bool} (h : ∀ k ∈ ks, left k = true) (f : Int → Option (Int × Int)) (s p : Int) : cntK ks left f s p = 0 := by
  unfold cntK
  rw [List.length_eq_zero_iff, List.filter_eq_nil_iff]
  intro k hk; simp [h k hk]

theorem cntK_le (ks : List Int) (left : Int → Bool) (f : Int → Option (Int × Int)) (s p : Int) : cntK ks left f s p ≤ ks.length := List.length_filter_le _ _

theorem sub_len {l m : List Int} (h : l.Pairwise (· ≠ ·)) (hs : ∀ k ∈ l, k ∈ m) : l.length ≤ m.length := by
  induction l generalizing m with
  | nil => exact Nat.zero_le _
  | cons x xs ih =>
    rw [List.pairwise_cons] at h
    have hx : x ∈ m := hs x (List.mem_cons_self)
    have := ih (m := m.erase x) h.2 (fun k hk => (List.mem_erase_of_ne (h.1 k hk).symm).2 (hs k (List.mem_cons_of_mem _ hk)))
    rw [List.length_erase_of_mem hx] at this
    have := List.length_pos_of_mem hx
    simp only [List.length_cons]
    omega

/-- The frames. -/
def frs (n : Int) : List Int := (List.range n.toNat).map fun i : Nat => (i : Int)

theorem mem_frs {n k : Int} : k ∈ frs n ↔ 0 ≤ k ∧ k < n := by
  unfold frs
  rw [List.mem_map]
  constructor
  · rintro ⟨i, hi, rfl⟩
    have := List.mem_range.1 hi
    omega
  · intro h
    exact ⟨k.toNat, List.mem_range.2 (by omega), by omega⟩

theorem frs_nodup (n : Int) : (frs n).Pairwise (· ≠ ·) := by
  unfold frs
  rw [List.pairwise_map]
  refine List.Pairwise.imp ?_ (List.nodup_range (n := n.toNat))
  intro a b h e
  exact h (by omega)

theorem frs_len {n : Int} (h : 0 ≤ n) : ((frs n).length : Int) = n := by
  unfold frs
  simp; omega

/-- What Count tells. -/
def cntS (ks : List Int) (n : Int) (f : Int → Option (Int × Int)) (s p : Int) : Int := (if hasS (0, 0) s p then n - ks.length else 0) + ((ks.filter fun k => hasS (ent f k) s p).length : Nat)

theorem cntK_end {ks : List Int} {left : Int → Bool} (h : ∀ k, left k = false) (f : Int → Option (Int × Int)) (s p : Int) : cntK ks left f s p = (ks.filter fun k => hasS (ent f k) s p).length := by
  unfold cntK; simp [h]

set_option maxHeartbeats 1000000 in
theorem count_any (b mb N : Nat) (n : Int) (f : Int → Option (Int × Int)) (s p : Int) (w : World) (h : LedAt w b mb N n f) (hn : 0 ≤ n ∧ n ≤ 1048576) (hks0 : ∀ k, (f k).isSome = true → 0 ≤ k ∧ k < n) :
    ∃ ks : List Int, ks.Pairwise (· ≠ ·) ∧ (∀ k, k ∈ ks ↔ (f k).isSome = true) ∧
    Calls Try.prog 17 #[.pointer (some ⟨b, 0, none⟩), .int .i64 s, .int .i64 p] w fun e w' => e = .returned (.int .i64 (cntS ks n f s p)) ∧ Below w.heap.size w w' := by
  obtain ⟨ks, hp, hks, hlen⟩ := h.m.keys keyed3 Try.underlying3 (t := 45) Try.underlying45
  refine ⟨ks, hp, hks, ?_⟩
  have hlt := h.lt
  have c0 := h.c0
  have c1 := h.c1
  have H := Lib.hid h
  have HLEN := Lib.hid hlen
  have HKS := Lib.hid hks
  have HP := Lib.hid hp
  clear h hlen hks hp
  have hz := has_any (0, 0) s p
  cases hz0 : hasS (0, 0) s p
  · rw [hz0] at hz
    go_enter Try.func17, Try.ntmps17
    go_wp2_with fail
    refine (hz _).mono ?_; rintro e w1 ⟨rfl, hb1⟩
    have h1 := H.out.below hb1
    have c0' := h1.c0
    have c1' := h1.c1
    have hm1 := Lib.hid h1.m
    clear h1 c0 c1
    go_wp2_with (first
      | (at_range; refine wpList_range_f rfl _ _ rfl _ keyed3 Try.underlying3 Try.underlying45 rfl hm1.out ?_; intro w0 cnt hrg0 hg0 hs0)
      | go_in)
    go_frame
    go_loopw [7] (fun z wr => ∃ (left : Int → Bool) (cnt : Nat), z = .int .i64 (cntK ks left f s p) ∧ RangesF Try.prog 3 .i64 entC wr mb w1.heap.size N f left cnt ∧ Below w.heap.size w wr)
      (fun _ wr => wr.rangeLeft mb w1.heap.size)
    case atStart => exact ⟨_, cnt, by rw [cntK_start (fun k hk => (HKS.out k).1 hk)]; rfl, hrg0, hb1.grown hg0 hb1.size (fun _ h => by cases h)⟩
    case round =>
      obtain ⟨left, cnt1, rfl, hrg, hbel⟩ := hrel
      have HB := Lib.hid hbel
      have hl1 := Lib.hid hrg.left_eq
      clear hbel hrg0 hg0 hs0
      go_wp2_with (first
        | (at_next; refine wpList_next_f rfl _ rfl keyed3 Try.underlying3 rfl hrg ?_ ?_)
        | go_in)
      · intro hl0
        go_wp2
        go_ret
        exact ⟨by rw [cntK_end hl0]; simp [cntS, hz0], HB.out⟩
      · intro k x1 x2 w2 cnt2 hlk hfx hwk hrg2 hlt2 hg2 hs2 hen0
        have hen : (Instr.entry (.pointer (some ⟨w1.heap.size, 0, none⟩))).run Try.prog w2 = .ok (.tuple #[.int .i64 k, .agg #[.int .i64 x1, .int .i64 x2]]) w2 := hen0
        clear hen0
        have HR2 := Lib.hid hrg2
        have HG2 := Lib.hid hg2
        have hk : k ∈ ks := (HKS.out k).2 (by rw [hfx]; rfl)
        have hst := Lib.hid (cntK_step HP.out hk hlk f s p)
        have he : ent f k = (x1, x2) := by unfold ent; rw [hfx]; rfl
        have hh := has_any (x1, x2) s p
        simp only at hh
        rw [he] at hst
        cases hx : hasS (x1, x2) s p
        · rw [hx] at hst hh
          go_wp2_with fail
          refine (hh _).mono ?_; rintro e w3 ⟨rfl, hb3⟩
          have hbw : Below w2.heap.size w2 w3 := ((Below.refl _ _).alloc (Nat.le_refl _) _).trans (hb3.mono (by simp))
          have HW := Lib.hid hbw
          clear hbw hb3
          go_wp2
          have hl := HR2.out.lt
          have hR3 := HR2.out.below HW.out hl.1 hl.2
          go_roundw
          case rel => exact ⟨_, cnt2, by rw [hst.out]; rfl, hR3, (HB.out.grown HG2.out HB.out.size (fun _ e => by cases e; exact hb1.size)).trans (HW.out.mono (by have := HB.out.size; omega))⟩
          case measure => rw [hR3.left_eq, hl1.out]; omega
        · rw [hx] at hst hh
          have hbk : cntK ks left f s p < 1048577 := by
            have h1 := cntK_le ks left f s p
            have h2 := sub_len HP.out (fun k hk => mem_frs.2 (hks0 k ((HKS.out k).1 hk)))
            have h3 := frs_len hn.1
            omega
          go_wp2_with fail
          refine (hh _).mono ?_; rintro e w3 ⟨rfl, hb3⟩
          have hbw : Below w2.heap.size w2 w3 := ((Below.refl _ _).alloc (Nat.le_refl _) _).trans (hb3.mono (by simp))
          have HW := Lib.hid hbw
          clear hbw hb3
          go_wp2
          have hl := HR2.out.lt
          have hR3 := HR2.out.below HW.out hl.1 hl.2
          go_roundw
          case rel => exact ⟨_, cnt2, by rw [hst.out]; go_num, hR3, (HB.out.grown HG2.out HB.out.size (fun _ e => by cases e; exact hb1.size)).trans (HW.out.mono (by have := HB.out.size; omega))⟩
          case measure => rw [hR3.left_eq, hl1.out]; omega
  · rw [hz0] at hz
    go_enter Try.func17, Try.ntmps17
    go_wp2_with fail
    refine (hz _).mono ?_; rintro e w1 ⟨rfl, hb1⟩
    have h1 := H.out.below hb1
    have c0' := h1.c0
    have c1' := h1.c1
    have hm1 := Lib.hid h1.m
    have hlen1 : ∀ ty, (Builtin.len_ #[45] ty #[.map (some mb)]).run Try.prog w1.drew = .ok (.int .i64 (ks.length : Int)) w1.drew := by
      obtain ⟨ks1, hp1, hks1, hl1⟩ := (show LMap w1.drew mb N f from h1.m).keys keyed3 Try.underlying3 (t := 45) Try.underlying45
      have e1 := sub_len HP.out (fun k hk => (hks1 k).2 ((HKS.out k).1 hk))
      have e2 := sub_len hp1 (fun k hk => (HKS.out k).2 ((hks1 k).1 hk))
      have e : ks.length = ks1.length := by omega
      rw [e]; exact hl1
    have hkl : (ks.length : Int) ≤ n := by
      have h2 := sub_len HP.out (fun k hk => mem_frs.2 (hks0 k ((HKS.out k).1 hk)))
      have h3 := frs_len hn.1
      omega
    clear h1 c0 c1
    go_wp2_with (first
      | (at_range; refine wpList_range_f rfl _ _ rfl _ keyed3 Try.underlying3 Try.underlying45 rfl hm1.out ?_; intro w0 cnt hrg0 hg0 hs0)
      | go_in)
    have hm2 := Lib.hid (show LMap w1.drew mb N f from hm1.out)
    go_region
    go_wp2_with (first
      | (at_range; refine wpList_range_f rfl _ _ rfl _ keyed3 Try.underlying3 Try.underlying45 rfl hm2.out ?_; intro w0 cnt hrg0 hg0 hs0)
      | go_in)
    go_frame
    go_loopw [7] (fun z wr => ∃ (left : Int → Bool) (cnt : Nat), z = .int .i64 (n - ks.length + cntK ks left f s p) ∧ RangesF Try.prog 3 .i64 entC wr mb w1.heap.size N f left cnt ∧ Below w.heap.size w wr)
      (fun _ wr => wr.rangeLeft mb w1.heap.size)
    case atStart => exact ⟨_, cnt, by rw [cntK_start (fun k hk => (HKS.out k).1 hk)]; simp, hrg0, hb1.drew.grown hg0 hb1.size (fun _ h => by cases h)⟩
    case round =>
      obtain ⟨left, cnt1, rfl, hrg, hbel⟩ := hrel
      have HB := Lib.hid hbel
      have hl1 := Lib.hid hrg.left_eq
      clear hbel hrg0 hg0 hs0
      go_wp2_with (first
        | (at_next; refine wpList_next_f rfl _ rfl keyed3 Try.underlying3 rfl hrg ?_ ?_)
        | go_in)
      · intro hl0
        go_wp2
        go_ret
        exact ⟨by rw [cntK_end hl0]; simp [cntS, hz0], HB.out⟩
      · intro k x1 x2 w2 cnt2 hlk hfx hwk hrg2 hlt2 hg2 hs2 hen0
        have hen : (Instr.entry (.pointer (some ⟨w1.heap.size, 0, none⟩))).run Try.prog w2 = .ok (.tuple #[.int .i64 k, .agg #[.int .i64 x1, .int .i64 x2]]) w2 := hen0
        clear hen0
        have HR2 := Lib.hid hrg2
        have HG2 := Lib.hid hg2
        have hk : k ∈ ks := (HKS.out k).2 (by rw [hfx]; rfl)
        have hst := Lib.hid (cntK_step HP.out hk hlk f s p)
        have he : ent f k = (x1, x2) := by unfold ent; rw [hfx]; rfl
        have hh := has_any (x1, x2) s p
        simp only at hh
        rw [he] at hst
        cases hx : hasS (x1, x2) s p
        · rw [hx] at hst hh
          go_wp2_with fail
          refine (hh _).mono ?_; rintro e w3 ⟨rfl, hb3⟩
          have hbw : Below w2.heap.size w2 w3 := ((Below.refl _ _).alloc (Nat.le_refl _) _).trans (hb3.mono (by simp))
          have HW := Lib.hid hbw
          clear hbw hb3
          go_wp2
          have hl := HR2.out.lt
          have hR3 := HR2.out.below HW.out hl.1 hl.2
          go_roundw
          case rel => exact ⟨_, _, _, _, _, _, _, _, _, _, _, _, ⟨_, cnt2, by rw [hst.out]; rfl, hR3, (HB.out.grown HG2.out HB.out.size (fun _ e => by cases e; exact hb1.size)).trans (HW.out.mono (by have := HB.out.size; omega))⟩, rfl⟩
          case measure => rw [hR3.left_eq, hl1.out]; omega
        · rw [hx] at hst hh
          have hbk : cntK ks left f s p < 1048577 := by
            have h1 := cntK_le ks left f s p
            have h2 := sub_len HP.out (fun k hk => mem_frs.2 (hks0 k ((HKS.out k).1 hk)))
            have h3 := frs_len hn.1
            omega
          go_wp2_with fail
          refine (hh _).mono ?_; rintro e w3 ⟨rfl, hb3⟩
          have hbw : Below w2.heap.size w2 w3 := ((Below.refl _ _).alloc (Nat.le_refl _) _).trans (hb3.mono (by simp))
          have HW := Lib.hid hbw
          clear hbw hb3
          go_wp2
          have hl := HR2.out.lt
          have hR3 := HR2.out.below HW.out hl.1 hl.2
          go_roundw
          case rel => exact ⟨_, _, _, _, _, _, _, _, _, _, _, _, ⟨_, cnt2, by rw [hst.out]; go_num, hR3, (HB.out.grown HG2.out HB.out.size (fun _ e => by cases e; exact hb1.size)).trans (HW.out.mono (by have := HB.out.size; omega))⟩, rfl⟩
          case measure => rw [hR3.left_eq, hl1.out]; omega

/-- How many frames are of a state and a party. -/
def cntF (n : Int) (f : Int → Option (Int × Int)) (s p : Int) : Nat := ((frs n).filter fun i => hasS (ent f i) s p).length

theorem filter_split (l : List Int) (a h : Int → Bool) : (l.filter h).length = (l.filter fun i => a i && h i).length + (l.filter fun i => !a i && h i).length := by
  induction l with
  | nil => rfl
  | cons x xs ih =>
    simp only [List.filter_cons]
    cases h x <;> cases a x <;> simp [ih] <;> omega

theorem filter_same {l m : List Int} (hl : l.Pairwise (· ≠ ·)) (hm : m.Pairwise (· ≠ ·)) {g h : Int → Bool} (e : ∀ k, (k ∈ l ∧ g k = true) ↔ (k ∈ m ∧ h k = true)) : (l.filter g).length = (m.filter h).length := by
  refine Nat.le_antisymm (sub_len (hl.filter g) ?_) (sub_len (hm.filter h) ?_)
  · intro k hk
    exact List.mem_filter.2 ((e k).1 (List.mem_filter.1 hk))
  · intro k hk
    exact List.mem_filter.2 ((e k).2 (List.mem_filter.1 hk))

theorem cntS_eq {ks : List Int} {n : Int} {f : Int → Option (Int × Int)} (hn : 0 ≤ n) (hp : ks.Pairwise (· ≠ ·)) (hks : ∀ k, k ∈ ks ↔ (f k).isSome = true) (hks0 : ∀ k, (f k).isSome = true → 0 ≤ k ∧ k < n) (s p : Int) :
    cntS ks n f s p = (cntF n f s p : Nat) := by
  unfold cntS cntF
  rw [filter_split (frs n) (fun i => (f i).isSome) fun i => hasS (ent f i) s p]
  rw [filter_same hp (frs_nodup n) (g := fun k => hasS (ent f k) s p) (h := fun i => (f i).isSome && hasS (ent f i) s p) (fun k => by
    rw [hks, mem_frs, Bool.and_eq_true]
    exact ⟨fun h => ⟨hks0 k h.1, h⟩, fun h => h.2⟩)]
  have h1 : ((frs n).filter fun i => !(f i).isSome && hasS (ent f i) s p) = (frs n).filter fun i => !(f i).isSome && hasS (0, 0) s p := List.filter_congr fun i _ => by
    cases hf : f i with
    | none => simp [ent, hf]
    | some x => rfl
  rw [h1]
  have h2 := filter_split (frs n) (fun i => (f i).isSome) (fun _ => true)
  have h3 := filter_same hp (frs_nodup n) (g := fun _ => true) (h := fun i => (f i).isSome && true) (fun k => by
    rw [hks, mem_frs, Bool.and_true]
    exact ⟨fun h => ⟨hks0 k h.1, h.1⟩, fun h => ⟨h.2, rfl⟩⟩)
  have h4 := frs_len hn
  have ft : ∀ l : List Int, (l.filter fun _ => true) = l := fun l => List.filter_eq_self.2 fun _ _ => rfl
  simp only [ft, Bool.and_true] at h2 h3
  have ff : ∀ l : List Int, (l.filter fun _ => false) = [] := fun l => List.filter_eq_nil_iff.2 fun _ _ h => by cases h
  cases hz : hasS (0, 0) s p
  · simp [ff]
  · simp only [Bool.and_true, if_true]
    omega

end Go.Proofs.Ytibklcjjdnhkdaa
