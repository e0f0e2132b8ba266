/- Package rmap: List. -/
import Derived.Test.YtdnfjpelhiniaaaRmf
namespace Go.Proofs.Ytdnfjpelhiniaaa
open Go.RowKit Mf

theorem infoP : (Try.prog.info? 31).map (fun i => (i.zero, i.size, i.bytes)) = some (some (.agg #[.int .i64 0, .int .u64 0]), 2, 16) := by kernel_rfl
theorem reads_pair (w : World) (a b : Value) (t : TypeId) : Reads (w.alloc (.cells #[a, b] t)) (w.alloc (.cells #[a, b] t)).heap.size 2 (some ⟨w.heap.size, 0, none⟩) 1 [a, b] := by
  refine ⟨rfl, fun _ => ⟨_, rfl, by simp, fun j u hj => ?_⟩⟩
  have hb := Blk.new w t #[a, b]
  match j, hj with
  | 0, hj => cases hj; exact (hb.cell 0).trans rfl
  | 1, hj => cases hj; exact (hb.cell 1).trans rfl
  | j + 2, hj => cases hj

theorem sub_len' {l m : List Plc} (h : l.Pairwise (· ≠ ·)) (hs : ∀ k ∈ l, k ∈ m) : l.length ≤ m.length := by
  induction l generalizing m with
  | nil => exact Nat.zero_le _
  | cons x xs ih =>
    obtain ⟨h1, h2⟩ := List.pairwise_cons.1 h
    have hx := hs x (List.mem_cons_self ..)
    have := ih (m := m.erase x) h2 (fun k hk => by
      have hk2 := hs k (List.mem_cons_of_mem _ hk)
      exact (List.mem_erase_of_ne (Ne.symm (h1 k hk))).2 hk2)
    rw [List.length_erase_of_mem hx] at this
    have := List.length_pos_of_mem hx
    rw [List.length_cons]
    omega

/-- The places that use a frame, in their order. -/
def PlacesOf (uk : Plc → Bool) (ts : List Plc) : Prop := ts.Pairwise (fun a b => plt a b = true) ∧ ∀ p, p ∈ ts ↔ uk p = true
theorem plt_tot {x y : Plc} (h : plt y x = false) (hne : x ≠ y) : plt x y = true := by
  rw [plt_iff]
  rw [plt_false] at h
  by_cases e : x.1.1 = y.1.1
  · right
    refine ⟨e, ?_⟩
    have : x.1.2 ≠ y.1.2 := fun e2 => hne (plc_ext e e2)
    omega
  · left; omega
theorem places_of {uk : Plc → Bool} {xs ts : List Plc} (hx : xs.Pairwise (· ≠ ·)) (hm : ∀ p, p ∈ xs ↔ uk p = true) (hp : ts.Perm xs) (hs : ts.Pairwise (fun a b => plt b a = false)) : PlacesOf uk ts := by
  have h2 : ts.Pairwise (· ≠ ·) := hp.symm.pairwise_iff (fun {_ _} hne => Ne.symm hne) |>.1 hx
  exact ⟨(List.pairwise_and_iff.2 ⟨hs, h2⟩).imp fun h => plt_tot h.1 h.2, fun p => by rw [hp.mem_iff]; exact hm p⟩
theorem PlacesOf.unique {uk : Plc → Bool} {ts us : List Plc} (h : PlacesOf uk ts) (k : PlacesOf uk us) : ts = us := by
  have irr : ∀ x : Plc, plt x x ≠ true := fun x hx => by have := plt_iff.1 hx; omega
  have hn : ∀ {l : List Plc}, l.Pairwise (fun a b => plt a b = true) → l.Nodup := fun h => h.imp fun h e => by subst e; exact irr _ h
  have hp : ts.Perm us := (List.perm_ext_iff_of_nodup (hn h.1) (hn k.1)).2 fun p => by rw [h.2, k.2]
  exact List.Perm.eq_of_pairwise (le := fun a b => plt a b = true) (fun a b _ _ h1 h2 => by
    have h1 := plt_iff.1 h1
    have h2 := plt_iff.1 h2
    omega) h.1 k.1 hp

/-- What is owed behind a range's last step, and behind another one: behind a name, so that the walk's simp leaves it. -/
def DoneG {κ : Type} (P : Program) (w : World) (ops : Array Oper) (rest : List Oper) (o : Oper) (a : Act) (Q : Exit → Act → World → Prop) (left : κ → Bool) : Prop := (∀ k, left k = false) → wpList P ops Q rest (a.put o.dst (.tuple #[.bool false])) w
def MoreG {E κ : Type} [DecidableEq κ] (P : Program) (K : TypeId) (c : Kc P K κ) (C : Enc E) (w : World) (b n : Nat) (f : κ → Option E) (ops : Array Oper) (rest : List Oper) (o : Oper) (a : Act) (Q : Exit → Act → World → Prop) (r cnt : Nat) (left : κ → Bool) : Prop :=
  ∀ (k : κ) (x : E) (w' : World) (cnt' : Nat), left k = true → f k = some x → RangesG P K c C w' b r n f (fun j => left j && !(decide (j = k))) cnt' → cnt' < cnt →
      w.grownBy w' (some r) → w'.heap.size = w.heap.size → (Instr.entry (.pointer (some ⟨r, 0, none⟩))).run P w' = .ok (.tuple #[c.val k, C.val x]) w' → wpList P ops Q rest (a.put o.dst (.tuple #[.bool true, c.val k, C.val x])) w'
theorem wpList_next_h {E κ : Type} [DecidableEq κ] {P : Program} {K : TypeId} {c : Kc P K κ} {C : Enc E} {w : World} {b n : Nat} {f : κ → Option E} {ops : Array Oper} {rest : List Oper} {o : Oper} {a : Act} {Q : Exit → Act → World → Prop} {r cnt : Nat} {left : κ → Bool} (hg : o.guard = none) (it : Operand) (hop : o.op = Op.next it false) (KK : Go.Maps.Keyed P K)
    (hit : a.eval it = .pointer (some ⟨r, 0, none⟩)) (h : RangesG P K c C w b r n f left cnt)
    (hDone : DoneG P w ops rest o a Q left) (hMore : MoreG P K c C w b n f ops rest o a Q r cnt left) :
    wpList P ops Q (o :: rest) a w := wpList_next_g hg it hop KK hit h hDone hMore

section
variable {w : World} {W c mb N : Nat} {F : Int → Option Nat} {u : Int → Plc → Bool}

set_option maxRecDepth 100000 in
set_option maxHeartbeats 4000000 in
theorem mlist (h : RmAt w W c mb N F u) (hN : N ≤ 1048576) (k : Int) (hk : (Lit.int .i64 k).wf = true) :
    Calls Try.prog 11 #[.pointer (some ⟨c, 0, none⟩), .int .i64 k] w fun e w' => ∃ (v : Value) (ts : List Plc), e = .returned v ∧ PlacesOf (u k) ts ∧ w'.ownsRow w.heap.size 31 2 v ts.length (ts.flatMap pc) ∧ Below w.heap.size w w' := by
  have c0 := (h.r.blk.cell 0).trans rfl
  have l1 := h.r.look hk
  have HH := Lib.hid h
  obtain ⟨i0, hi0, hz0', hz1, hz2⟩ := info_parts infoP
  cases hF : F k with
  | none =>
    rw [hF] at l1
    have hno := h.r.non k hF
    have HN := Lib.hid hno
    clear hno h
    have hrg : ∀ W : World, (Instr.range 52 (.map none)).run Try.prog W = .ok (.pointer (some ⟨W.heap.size, 0, none⟩)) (W.alloc (.mapIter none 0 #[] 0)) := fun W => by
      have hu := run_underlying (P := Try.prog) (w := W) Try.underlying52
      unfold Instr.range
      rw [Sem.run_bind, hu]
      rfl
    have hnx : ∀ ty, (Instr.next (.pointer (some ⟨w.heap.size, 0, none⟩)) false ty).run Try.prog (w.alloc (.mapIter none 0 #[] 0)) = _ := fun ty => run_next_nilMap w ty 0 0 #[]
    go_enter Try.func11, Try.ntmps11
    have hso := Lib.hid (sortPlaces_own (w.heap.size + 1) (.slice none 0 0) [] (w.alloc (.mapIter none 0 #[] 0)) (World.ownsRow_nil _ _ _ _) (by simp))
    go_wp2
    refine wp_loop_rounds 1 ?_
    rw [rounds_succ]
    go_wp2_with fail
    refine hso.out.mono ?_; rintro e w3 ⟨rfl, ts, hp, hs, hown3, hg3⟩
    have e0 : ts = [] := hp.eq_nil
    subst e0
    have hB3 := Lib.hid ((((Below.refl _ w).alloc (Nat.le_refl _) (.mapIter none 0 #[] 0))).grown hg3 (by simp) (fun g hg => by cases hg))
    clear hp hs hg3 hown3 hso
    go_wp2
    go_ret
    exact ⟨_, [], rfl, ⟨List.Pairwise.nil, fun p => by rw [HN.out p]; simp⟩, World.ownsRow_nil _ _ _ _, hB3.out⟩
  | some b =>
    rw [hF] at l1
    have hm1 := Lib.hid (h.r.inn k b hF)
    obtain ⟨ks, _, hks, hkl, _⟩ := hm1.out.keys keyedP (t := 52) Try.underlying52
    have HKS := Lib.hid (show ∀ p, p ∈ ks ↔ u k p = true from fun p => by
      rw [hks p]
      unfold usF
      cases u k p <;> simp)
    clear h hks hF
    go_enter Try.func11, Try.ntmps11
    go_wp2_with (first
      | (at_range; refine wpList_range_g rfl _ _ rfl _ keyedP Try.underlying52 rfl hm1.out ?_; intro w0 cnt hrg0 hg0 hs0)
      | go_in)
    go_frame
    go_loopw [5] (fun v wr => ∃ (left : Plc → Bool) (cnt : Nat) (xs : List Plc), wr.ownsRow (w.heap.size + 1) 31 2 v xs.length (xs.flatMap pc) ∧ RangesG Try.prog 31 plcC useC wr b w.heap.size N (usF (u k)) left cnt ∧ Below w.heap.size w wr ∧ w.heap.size + 1 ≤ wr.heap.size ∧
        xs.Pairwise (· ≠ ·) ∧ ∀ p, p ∈ xs ↔ u k p = true ∧ left p = false)
      (fun _ wr => wr.rangeLeft b w.heap.size)
    case atStart => exact ⟨_, cnt, [], World.ownsRow_nil _ _ _ _, hrg0, (Below.refl _ w).grown hg0 (Nat.le_refl _) (fun _ h => by cases h), by omega, List.Pairwise.nil, fun p => by simp [usF]⟩
    case round =>
      obtain ⟨left, cnt1, xs, hown, hrg, hbel, hsz, hxp, hxs⟩ := hrel
      have HO := Lib.hid hown
      have HB := Lib.hid hbel
      have HX := Lib.hid hxs
      have HP := Lib.hid hxp
      have hl1 := Lib.hid hrg.left_eq
      have hlen : xs.length ≤ 1048576 := by
        have h2 := sub_len' hxp (fun p hp => (HKS.out p).2 ((hxs p).1 hp).1)
        omega
      clear hown hbel hrg0 hg0 hs0 hxs hxp
      go_wp2_with (first
        | (at_next; refine wpList_next_h rfl _ rfl keyedP rfl hrg ?_ ?_)
        | go_in)
      · intro hl0
        have hso := Lib.hid (sortPlaces_own _ _ _ _ HO.out (by omega))
        go_wp2_with fail
        refine hso.out.mono ?_; rintro e w3 ⟨rfl, ts, hp, hs, hown3, hg3⟩
        have hpo := Lib.hid (places_of HP.out (fun p => by rw [HX.out p]; exact ⟨fun h => h.1, fun h => ⟨h, hl0 p⟩⟩) hp hs)
        have hO3 := Lib.hid (show w3.ownsRow w.heap.size 31 2 u5 ts.length (ts.flatMap pc) from by rw [hp.length_eq]; exact ownsRow_mono hown3 (by omega))
        have hB3 := Lib.hid (HB.out.grown hg3 HB.out.size (fun g hg => by have h1 := (HO.out.lt g hg).1; omega))
        clear hp hs hown3 hg3 hso
        go_wp2
        go_ret
        exact ⟨_, ts, rfl, hpo.out, hO3.out, hB3.out⟩
      · intro p x w2 cnt2 hlk hfx hrg2 hlt2 hg2 hs2 hen0
        have hen : (Instr.entry (.pointer (some ⟨w.heap.size, 0, none⟩))).run Try.prog w2 = .ok (.tuple #[.agg #[.int .i64 p.1.1, .int .u64 p.1.2], .bool x]) w2 := hen0
        clear hen0
        have HR2 := Lib.hid hrg2
        have HG2 := Lib.hid hg2
        have HFX := Lib.hid (show u k p = true from by
          unfold usF at hfx
          cases hu : u k p
          · rw [hu] at hfx; cases hfx
          · rfl)
        have hO3 := Lib.hid (HO.out.kept hg2 (.inr fun e => by have := (HO.out.lt _ e).1; omega))
        have hsz2 : wr.heap.size ≤ w2.heap.size := by omega
        clear hrg2 hg2 hfx hs2
        go_wp2_with (first
          | (at_builtin; refine wpList_append_any _ rfl (.tmp 18) (.tmp 20) _ rfl (w.heap.size + 1) 31 i0 _ 2 16 Try.underlying37 hi0 hz0' hz1 hz2 rfl (by omega) u5 _ _ rfl ((hO3.out.alloc _).alloc _) _ (some ⟨w2.heap.size + 1, 0, none⟩) 1 1 [.int .i64 p.1.1, .int .u64 p.1.2] rfl (by have := reads_pair (w2.alloc (.cells #[.int .i64 p.1.1, .int .u64 p.1.2] 31)) (.int .i64 p.1.1) (.int .u64 p.1.2) 31; simpa using this) (by simp; exact ⟨rfl, rfl⟩) (by unfold maxLen; omega) (by omega) (by simp; omega) ?_; intro v2 w4 hown2 hg4 hat2)
          | go_in)
        have hbig : Below (w.heap.size + 1) w2 w4 := (((Below.refl _ _).alloc (by omega) _).alloc (by simp; omega) _).grown hg4 (by simp; omega) (fun g hg => (hO3.out.lt g hg).1)
        have hlm := hm1.out.lt
        have hR4 := HR2.out.below hbig (by omega) (by omega)
        have hnew : p ∉ xs := fun h => by have h1 := ((HX.out p).1 h).2; rw [hlk] at h1; cases h1
        refine ⟨⟨_, cnt2, xs ++ [p], by rw [List.length_append, List.flatMap_append]; exact hown2, hR4, (HB.out.grown HG2.out HB.out.size (fun _ e => by cases e; exact Nat.le_refl _)).trans (hbig.mono (by omega)), by have := hbig.size; omega, ?_, fun j => ?_⟩, by rw [hR4.left_eq, hl1.out]; omega⟩
        · rw [List.pairwise_append]
          exact ⟨HP.out, by simp, fun a ha b hb => by rw [List.mem_singleton] at hb; subst hb; intro e; subst e; exact hnew ha⟩
        · rw [List.mem_append, List.mem_singleton, HX.out j]
          by_cases hj : j = p
          · subst hj
            rw [HFX.out]; simp
          · simp [hj]
end
end Go.Proofs.Ytdnfjpelhiniaaa
