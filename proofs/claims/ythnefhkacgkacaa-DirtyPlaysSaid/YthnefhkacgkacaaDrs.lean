/- What package demesneref19 does with its log in memory: contracts of Note and Forget. -/
import Derived.Test.YthnefhkacgkacaaDrr
import Derived.Test.YthnefhkacgkacaaCut
import Derived.Test.YthnefhkacgkacaaTakz
import Derived.IntWalk
namespace Go.Proofs.Ythnefhkacgkacaa
open Go.RowKit Mf

theorem Reads.take {w : World} {B n : Nat} {A : Option Addr} {xs : List Value} (h : Reads w B 1 A n xs) {k : Nat} (hk : k ≤ n) : Reads w B 1 A k (xs.take k) := by
  refine ⟨by rw [List.length_take]; have := h.1; omega, fun h0 => ?_⟩
  obtain ⟨ad, e, hb, hc⟩ := h.2 (by omega)
  refine ⟨ad, e, hb, fun j u hu => hc j u ?_⟩
  rw [List.getElem?_take] at hu
  split at hu
  · exact hu
  · cases hu

theorem Reads.of_blk1 {w : World} {g : Nat} {t : TypeId} {v : Value} (h : Blk w g t #[v]) : Reads w w.heap.size 1 (some ⟨g, 0, none⟩) 1 [v] := by
  refine ⟨rfl, fun _ => ⟨_, rfl, h.lt, fun j u hj => ?_⟩⟩
  cases j with
  | zero => cases hj; exact (h.cell 0).trans rfl
  | succ j => cases hj

theorem own_form {w : World} {base size n : Nat} {e : TypeId} {v : Value} {xs : List Value} (h : w.ownsRow base e size v n xs) : ∃ A m c, v = .slice A m c := by
  rcases h.2 with ⟨rfl, _⟩ | ⟨g, cap, cur, rfl, _⟩
  · exact ⟨_, _, _, rfl⟩
  · exact ⟨_, _, _, rfl⟩

theorem own_slice2 {w : World} {base : Nat} {v : Value} {xs : List Int} (h : w.ownsRow base 29 1 v xs.length (xs.map (Value.int .u64))) : ∃ A c, v = .slice A xs.length c ∧ xs.length ≤ c ∧ Reads w w.heap.size 1 A xs.length (xs.map (Value.int .u64)) := by
  rcases h.2 with ⟨rfl, h0⟩ | ⟨g, cap, cur, rfl, _, _, hc, _⟩
  · have e : xs = [] := List.eq_nil_of_length_eq_zero h0
    subst e
    exact ⟨none, 0, rfl, Nat.le_refl _, Reads.none_⟩
  · exact ⟨_, _, rfl, hc, Reads.of_own h⟩

theorem RSim.ins {xs : List Int} {P : Int → Bool} {p : Int} {k : Nat} (hs : RSim xs P) (hk : PosIs xs p k) (hp : P p = false) : RSim (xs.take k ++ p :: xs.drop k) (fun q => P q || q == p) := by
  have hle := hk.le
  have hn : p ∉ xs := fun h => by rw [hs.mem, hp] at h; cases h
  have hlo : ∀ a ∈ xs.take k, a < p := fun a ha => by
    obtain ⟨j, hj⟩ := List.mem_iff_getElem?.1 ha
    rw [List.getElem?_take] at hj
    split at hj
    · rename_i hjk
      have e := ele_some (d := xs) (k := j) (by omega)
      rw [hj] at e
      cases e
      exact hk.lo j hjk
    · cases hj
  have hhi : ∀ a ∈ xs.drop k, p < a := fun a ha => by
    obtain ⟨j, hj⟩ := List.mem_iff_getElem?.1 ha
    rw [List.getElem?_drop] at hj
    have hjl := (List.getElem?_eq_some_iff.1 hj).1
    have e := ele_some (d := xs) (k := k + j) hjl
    rw [hj] at e
    cases e
    have h1 := hk.hi (by omega)
    have h2 : ele xs k ≤ ele xs (k + j) := by
      by_cases e0 : j = 0
      · rw [e0]; exact Int.le_refl _
      · exact Int.le_of_lt (strict_ele hs.srt (by omega) hjl)
    have h3 : ele xs (k + j) ≠ p := fun e => hn (ele_mem.2 ⟨_, hjl, e⟩)
    omega
  refine ⟨?_, fun q => ?_⟩
  · rw [List.pairwise_append]
    refine ⟨hs.srt.sublist (List.take_sublist _ _), List.pairwise_cons.2 ⟨hhi, hs.srt.sublist (List.drop_sublist _ _)⟩, fun a ha b hb => ?_⟩
    rcases List.mem_cons.1 hb with rfl | hb
    · exact hlo a ha
    · have := hlo a ha; have := hhi b hb; omega
  · rw [Bool.or_eq_true, beq_iff_eq, ← hs.mem, List.mem_append, List.mem_cons]
    have e : q ∈ xs ↔ q ∈ xs.take k ∨ q ∈ xs.drop k := by rw [← List.mem_append, List.take_append_drop]
    rw [e]
    constructor
    · rintro (h | h | h)
      · exact .inl (.inl h)
      · exact .inr h
      · exact .inl (.inr h)
    · rintro ((h | h) | h)
      · exact .inl h
      · exact .inr (.inr h)
      · exact .inr (.inl h)

theorem RSim.del {xs : List Int} {P : Int → Bool} {p : Int} {k : Nat} (hs : RSim xs P) (hk : k < xs.length) (he : ele xs k = p) : RSim (xs.take k ++ xs.drop (k + 1)) (fun q => P q && !(q == p)) := by
  have hsp : xs = xs.take k ++ p :: xs.drop (k + 1) := by
    have e := List.getElem_cons_drop (h := hk)
    have e2 : xs[k] = p := by rw [← he]; unfold ele; rw [List.getD_eq_getElem?_getD, List.getElem?_eq_getElem hk]; rfl
    rw [e2] at e
    rw [e, List.take_append_drop]
  have hpw := hs.srt
  rw [hsp, List.pairwise_append, List.pairwise_cons] at hpw
  obtain ⟨h1, ⟨h2, h3⟩, h4⟩ := hpw
  refine ⟨?_, fun q => ?_⟩
  · rw [List.pairwise_append]
    exact ⟨h1, h3, fun a ha b hb => h4 a ha b (List.mem_cons_of_mem _ hb)⟩
  · have e : q ∈ xs ↔ q ∈ xs.take k ∨ q = p ∨ q ∈ xs.drop (k + 1) := by
      rw [← List.mem_cons, ← List.mem_append, ← hsp]
    have hm : (P q && !(q == p)) = true ↔ q ∈ xs ∧ q ≠ p := by simp [hs.mem]
    rw [hm, e, List.mem_append]
    constructor
    · rintro (h | h)
      · exact ⟨.inl h, fun e => by have := h4 q h p (List.mem_cons_self ..); omega⟩
      · exact ⟨.inr (.inr h), fun e => by have := h2 q h; omega⟩
    · rintro ⟨h | h | h, h0⟩
      · exact .inl h
      · exact absurd h h0
      · exact .inr h

/-- What the reference's Note and Forget leave. -/
def RPut (w : World) (c B : Nat) (on b : Bool) (ys : List Int) (e : Ending) (w' : World) : Prop := e = .returned (.bool b) ∧ ∃ v', RL w' c B on v' ys ∧ Only (fun j => j = c) w w'

section
variable {w0 wc w' : World} {c B g : Nat} {on : Bool} {v v2 : Value} {xs ys : List Int} {m : Nat}
/-- A row that is new beside an old log. -/
theorem RL.put (h : RL w0 c B on v xs) (hb : Below w0.heap.size w0 wc) (hB : B ≤ w0.heap.size) (ho : wc.ownsRow w0.heap.size 29 1 v2 m (ys.map (Value.int .u64))) (hm : m = ys.length) :
    RL (wc.setCell ⟨c, 1, none⟩ v2) c B on v2 ys ∧ Only (fun j => j = c) w0 (wc.setCell ⟨c, 1, none⟩ v2) := by
  subst hm
  have hlt := h.blk.lt
  have h1 := (h.below hb).blk.set_ 1 v2
  have ho2 : Only (fun j => j = c) w0 (wc.setCell ⟨c, 1, none⟩ v2) := (only_fresh (S := fun j => j = c) hb).setCell (p := ⟨c, 1, none⟩) (.inl rfl) _
  refine ⟨⟨h1, ?_, h.lt⟩, ho2⟩
  exact ownsRow_mono (own_only ho ((Only.refl (fun j => j = c) wc).setCell (p := ⟨c, 1, none⟩) (.inl rfl) _) (fun k e => by subst e; exact hlt)) hB
theorem below_own (hb : Below w0.heap.size w0 wc) {a : Value} {n : Nat} {zs : List Value} (ho : wc.ownsRow w0.heap.size 29 1 a n zs) (hg : wc.grownBy w' a.ownBlock) : Below w0.heap.size w0 w' :=
  hb.grown hg hb.size (fun g hg => (ho.lt g hg).1)
end

set_option maxRecDepth 100000 in
set_option maxHeartbeats 8000000 in
theorem rnote_new (c B : Nat) (v : Value) (xs : List Int) (P : Int → Bool) (p : Int) (w : World) (h : RL w c B true v xs) (hs : RSim xs P) (hl : xs.length ≤ 1000) (hB : B ≤ w.heap.size) (hp : P p = false) :
    Calls Try.prog 17 #[.pointer (some ⟨c, 0, none⟩), .int .u64 p] w fun e w' => ∃ ys, RSim ys (fun q => P q || q == p) ∧ ys.length ≤ xs.length + 1 ∧ RPut w c B true true ys e w' := by
  have C := Lib.hid (rat_any c B true v xs p w h hl)
  obtain ⟨i0, hi0, hz0', hz1, hz2⟩ := info_parts infoW
  have HS := Lib.hid hs
  have HR0 := Lib.hid h
  have HP := Lib.hid hp
  clear h hs hp
  go_enter Try.func17, Try.ntmps17
  go_wp2_with fail
  refine C.out.mono ?_
  rintro e w1 ⟨k, q, rfl, hk, rfl⟩
  have e1 : decide (k < xs.length ∧ ele xs k = p) = false := by
    rw [← HP.out, Bool.eq_iff_iff, decide_eq_true_eq, ← hk.mem HS.out.srt, HS.out.mem]
  rw [e1]
  have HK := Lib.hid hk
  have hkn : k ≤ xs.length := hk.le
  clear hk e1
  have HR1 := Lib.hid (HR0.out.drewN q)
  have HB1 := Lib.hid (show B ≤ (w.drewN q).heap.size from hB)
  have HO1 := Lib.hid (show Only (fun j => j = c) w (w.drewN q) from (Only.refl _ w).drewN q)
  generalize w.drewN q = w1 at *
  have c0 := HR1.out.c0
  go_wp2_with fail
  obtain ⟨A, cc, rfl, hcc, hrd⟩ := own_slice2 HR1.out.own
  obtain ⟨A2, hA2⟩ : ∃ A2, (if cc = k then A else A.map (·.add (k * 1))) = A2 := ⟨_, rfl⟩
  have hs1 : ∀ w' : World, (Instr.slice 26 (.slice A xs.length cc) none (some (.int .i64 (k : Int))) none).run Try.prog w' = .ok (.slice A k cc) w' := fun w' => run_cut_lo w' Try.underlying26 hi0 A xs.length cc k (by omega)
  have hs2 : ∀ w' : World, (Instr.slice 26 (.slice A xs.length cc) (some (.int .i64 (k : Int))) none none).run Try.prog w' = .ok (.slice A2 (xs.length - k) (cc - k)) w' := fun w' => by rw [← hA2]; exact run_cut_hi w' Try.underlying26 hi0 1 hz1 A xs.length cc k hkn
  have HRD := Lib.hid (show Reads w1.drew w1.drew.heap.size 1 A xs.length (xs.map (Value.int .u64)) from hrd)
  have HRD2 := Lib.hid (show Reads w1.drew w1.drew.heap.size 1 A2 (xs.length - k) ((xs.map (Value.int .u64)).drop (k * 1)) from by rw [← hA2]; exact Reads.cut (show Reads w1.drew w1.drew.heap.size 1 A xs.length (xs.map (Value.int .u64)) from hrd) hkn hcc)
  have HR := Lib.hid (HR1.out.drewN 1)
  have HB := Lib.hid (show B ≤ w1.drew.heap.size from HB1.out)
  have HO := Lib.hid (show Only (fun j => j = c) w w1.drew from HO1.out.drewN 1)
  have HR : Hid (RL w1.drew c B true (.slice A xs.length cc) xs) := HR
  have SK := Lib.hid (show ∀ w', Below w1.drew.heap.size w1.drew w' → w'.cell? ⟨c, 1, none⟩ = some (.slice A xs.length cc) ∧ w'.frozen? ⟨c, 1, none⟩ = false from fun w' hb => ⟨(HR.out.below hb).c1, (HR.out.below hb).blk.frozen 1⟩)
  clear hrd hA2 hcc c0
  refine beginZ (z := 21) (S := (fun w' => w'.cell? ⟨c, 1, none⟩ = some (.slice A xs.length cc) ∧ w'.frozen? ⟨c, 1, none⟩ = false)) (by kernel_rfl) ?_ (fun hHeld => ?_)
  · exact SK.out _ (Below.refl _ _)
  generalize w1.drew = w0 at *
  obtain ⟨wc, hwc, HBL, hHeld⟩ : ∃ wc, w0 = wc ∧ Hid (Below w0.heap.size w0 wc) ∧ (wc.cell? ⟨c, 1, none⟩ = some (.slice A xs.length cc) ∧ wc.frozen? ⟨c, 1, none⟩ = false) := ⟨w0, rfl, Lib.hid (Below.refl _ _), hHeld⟩
  rw [hwc]
  clear hwc
  ((refine takeYZ 0 (by kernel_rfl) (v := ?_) rfl (by kernel_rfl) (by kernel_rfl) (by kernel_rfl) (fun _ _ _ h => h) (by rfl) (by assumption) ?_ ?_; rotate_left; · (intro w hSw; (try dsimp only at hSw); go_simp; (first | done | with_reducible rfl))))
  (try simp only [Act.put, List.setIfInBounds_toArray, List.set_cons_zero, List.set_cons_succ])
  ((refine takeYZ 2 (by kernel_rfl) (v := ?_) rfl (by kernel_rfl) (by kernel_rfl) (by kernel_rfl) (fun _ _ _ h => h) (by rfl) (by assumption) ?_ ?_; rotate_left; · (intro w hSw; (try dsimp only at hSw); go_simp; (first | done | with_reducible rfl))))
  (try simp only [Act.put, List.setIfInBounds_toArray, List.set_cons_zero, List.set_cons_succ])
  ((refine takeYZ 3 (by kernel_rfl) (v := ?_) rfl (by kernel_rfl) (by kernel_rfl) (by kernel_rfl) (fun _ _ _ h => h) (by rfl) (by assumption) ?_ ?_; rotate_left; · (intro w hSw; (try dsimp only at hSw); go_simp; (first | done | with_reducible rfl))))
  (try simp only [Act.put, List.setIfInBounds_toArray, List.set_cons_zero, List.set_cons_succ])
  ((refine takeYZ 4 (by kernel_rfl) (v := ?_) rfl (by kernel_rfl) (by kernel_rfl) (by kernel_rfl) (fun _ _ _ h => h) (by rfl) (by assumption) ?_ ?_; rotate_left; · (intro w hSw; (try dsimp only at hSw); go_simp; (first | done | with_reducible rfl))))
  (try simp only [Act.put, List.setIfInBounds_toArray, List.set_cons_zero, List.set_cons_succ])
  ((refine takeYZ 5 (by kernel_rfl) (v := ?_) rfl (by kernel_rfl) (by kernel_rfl) (by kernel_rfl) (fun _ _ _ h => h) (by rfl) (by assumption) ?_ ?_; rotate_left; · (intro w hSw; (try dsimp only at hSw); go_simp; (first | done | with_reducible rfl))))
  (try simp only [Act.put, List.setIfInBounds_toArray, List.set_cons_zero, List.set_cons_succ])
  ((refine takeYZ 6 (by kernel_rfl) (v := ?_) rfl (by kernel_rfl) (by kernel_rfl) (by kernel_rfl) (fun _ _ _ h => h) (by rfl) (by assumption) ?_ ?_; rotate_left; · (intro w hSw; (try dsimp only at hSw); go_simp; (first | done | with_reducible rfl))))
  (try simp only [Act.put, List.setIfInBounds_toArray, List.set_cons_zero, List.set_cons_succ])
  ((refine takeYZ 7 (by kernel_rfl) (v := ?_) rfl (by kernel_rfl) (by kernel_rfl) (by kernel_rfl) (fun _ _ _ h => h) (by rfl) (by assumption) ?_ ?_; rotate_left; · (intro w hSw; (try dsimp only at hSw); go_simp; (first | done | with_reducible rfl))))
  (try simp only [Act.put, List.setIfInBounds_toArray, List.set_cons_zero, List.set_cons_succ])
  ((refine takeYZ 9 (by kernel_rfl) (v := ?_) rfl (by kernel_rfl) (by kernel_rfl) (by kernel_rfl) (fun _ _ _ h => h) (by rfl) (by assumption) ?_ ?_; rotate_left; · (intro w hSw; (try dsimp only at hSw); go_simp; (first | done | with_reducible rfl))))
  (try simp only [Act.put, List.setIfInBounds_toArray, List.set_cons_zero, List.set_cons_succ])
  ((refine takeYZ 12 (by kernel_rfl) (v := ?_) rfl (by kernel_rfl) (by kernel_rfl) (by kernel_rfl) (fun _ _ _ h => h) (by rfl) (by assumption) ?_ ?_; rotate_left; · (intro w hSw; (try dsimp only at hSw); go_simp; (first | done | with_reducible rfl))))
  (try simp only [Act.put, List.setIfInBounds_toArray, List.set_cons_zero, List.set_cons_succ])
  ((refine takeYZ 13 (by kernel_rfl) (v := ?_) rfl (by kernel_rfl) (by kernel_rfl) (by kernel_rfl) (fun _ _ _ h => h) (by rfl) (by assumption) ?_ ?_; rotate_left; · (intro w hSw; (try dsimp only at hSw); go_simp; (first | done | with_reducible rfl))))
  (try simp only [Act.put, List.setIfInBounds_toArray, List.set_cons_zero, List.set_cons_succ])
  ((refine takeYZ 14 (by kernel_rfl) (v := ?_) rfl (by kernel_rfl) (by kernel_rfl) (by kernel_rfl) (fun _ _ _ h => h) (by rfl) (by assumption) ?_ ?_; rotate_left; · (intro w hSw; (try dsimp only at hSw); go_simp; (first | done | with_reducible rfl))))
  (try simp only [Act.put, List.setIfInBounds_toArray, List.set_cons_zero, List.set_cons_succ])
  ((refine takeYZ 15 (by kernel_rfl) (v := ?_) rfl (by kernel_rfl) (by kernel_rfl) (by kernel_rfl) (fun _ _ _ h => h) (by rfl) (by assumption) ?_ ?_; rotate_left; · (intro w hSw; (try dsimp only at hSw); go_simp; (first | done | with_reducible rfl))))
  (try simp only [Act.put, List.setIfInBounds_toArray, List.set_cons_zero, List.set_cons_succ])
  ((refine takeYZ 16 (by kernel_rfl) (v := ?_) rfl (by kernel_rfl) (by kernel_rfl) (by kernel_rfl) (fun _ _ _ h => h) (by rfl) (by assumption) ?_ ?_; rotate_left; · (intro w hSw; (try dsimp only at hSw); go_simp; (first | done | with_reducible rfl))))
  (try simp only [Act.put, List.setIfInBounds_toArray, List.set_cons_zero, List.set_cons_succ])
  ((refine takeYZ 17 (by kernel_rfl) (v := ?_) rfl (by kernel_rfl) (by kernel_rfl) (by kernel_rfl) (fun _ _ _ h => h) (by rfl) (by assumption) ?_ ?_; rotate_left; · (intro w hSw; (try dsimp only at hSw); go_simp; (first | done | with_reducible rfl))))
  (try simp only [Act.put, List.setIfInBounds_toArray, List.set_cons_zero, List.set_cons_succ])
  refine readyZ (rs := [1, 10]) (by kernel_rfl) (by simp) ?_
  refine consZ 1 rfl (by rfl) (fun K hK => ?_) (consZ 10 rfl (by rfl) (fun K hK => ?_) (nilZ))
  · go_simp
    (refine hK.out _ _ ?_ (fun hHeld => ?_))
    · exact SK.out _ (HBL.out.alloc HBL.out.size _)
    clear hK K
    have HA := Lib.hid (show (wc.alloc (.cells #[] 29)).ownsRow w0.heap.size 29 1 (.slice (some ⟨wc.heap.size, 0, none⟩) 0 0) 0 [] from World.ownsRow_lit wc #[] 0 HBL.out.size (by unfold maxLen; omega) rfl)
    replace HBL := Lib.hid (HBL.out.alloc HBL.out.size (.cells #[] 29))
    generalize hwn : wc.alloc (.cells #[] 29) = wn at *
    clear hwn
    generalize hga : wc.heap.size = ga at *
    clear hga
    obtain ⟨wc, rfl⟩ : ∃ x : World, x = wn := ⟨_, rfl⟩
    refine readyZ (rs := [8, 10]) (by kernel_rfl) (by simp) ?_
    refine consZ 8 rfl (by rfl) (fun K hK => ?_) (consZ 10 rfl (by rfl) (fun K hK => ?_) (nilZ))
    · (refine wp_append_any _ (.tmp 22) (.tmp 28) _ rfl w0.heap.size 29 i0 _ 1 8 Try.underlying26 hi0 hz0' hz1 hz2 rfl (by omega) _ 0 _ rfl HA.out _ A k _ ((xs.map (Value.int .u64)).take k) rfl ((HRD.out.below HBL.out).take hkn) (fun u hu => by obtain ⟨z, _, rfl⟩ := List.mem_map.1 (List.mem_of_mem_take hu); rfl) (by unfold maxLen; omega) (by omega) HBL.out.size ?_; intro v2 w3 hown2 hg2 hat2)
      (refine hK.out _ _ ?_ (fun hHeld => ?_))
      · exact SK.out _ (below_own HBL.out HA.out hg2)
      clear hK K
      replace HBL := Lib.hid (below_own HBL.out HA.out hg2)
      replace HA := Lib.hid hown2
      clear hown2 hg2 hat2
      obtain ⟨va, rfl⟩ : ∃ x : Value, x = v2 := ⟨_, rfl⟩
      obtain ⟨wc, rfl⟩ : ∃ x : World, x = w3 := ⟨_, rfl⟩
      refine stepZ 10 rfl (by kernel_rfl) (by rfl) (fun K hK => ?_)
      go_simp
      (refine hK.out _ _ ?_ (fun hHeld => ?_))
      · exact SK.out _ (HBL.out.alloc HBL.out.size _)
      clear hK K
      have HC := Lib.hid (Blk.new wc 29 #[.int .u64 p])
      have HNE := Lib.hid (show some wc.heap.size ≠ va.ownBlock from fun e => by have := (HA.out.lt _ e.symm).2; omega)
      replace HA := Lib.hid (HA.out.alloc (.cells #[.int .u64 p] 29))
      replace HBL := Lib.hid (HBL.out.alloc HBL.out.size (.cells #[.int .u64 p] 29))
      generalize hwn : wc.alloc (.cells #[.int .u64 p] 29) = wn at *
      clear hwn
      generalize hgc : wc.heap.size = gc at *
      clear hgc
      obtain ⟨wc, rfl⟩ : ∃ x : World, x = wn := ⟨_, rfl⟩
      refine stepZ 11 rfl (by kernel_rfl) (by rfl) (fun K hK => ?_)
      (refine wp_append_any _ (.tmp 29) (.tmp 31) _ rfl w0.heap.size 29 i0 _ 1 8 Try.underlying26 hi0 hz0' hz1 hz2 rfl (by omega) _ (0 + k) _ rfl HA.out _ (some ⟨gc, 0, none⟩) 1 _ [.int .u64 p] rfl (Reads.of_blk1 HC.out) (by simp; rfl) (by unfold maxLen; omega) (by omega) HBL.out.size ?_; intro v2 w3 hown2 hg2 hat2)
      (refine hK.out _ _ ?_ (fun hHeld => ?_))
      · exact SK.out _ (below_own HBL.out HA.out hg2)
      clear hK K
      have HC2 := Lib.hid (HC.out.grown hg2 HNE.out)
      replace HNE := Lib.hid (show some gc ≠ v2.ownBlock from by
        rcases hat2 with e | e
        · rw [e]; exact HNE.out
        · rw [e]; exact fun e => absurd (Option.some.inj e) (by have := HC.out.lt; omega))
      replace HC := HC2
      clear HC2
      replace HBL := Lib.hid (below_own HBL.out HA.out hg2)
      replace HA := Lib.hid hown2
      clear hown2 hg2 hat2
      obtain ⟨va, rfl⟩ : ∃ x : Value, x = v2 := ⟨_, rfl⟩
      obtain ⟨wc, rfl⟩ : ∃ x : World, x = w3 := ⟨_, rfl⟩
      refine stepZ 18 rfl (by kernel_rfl) (by rfl) (fun K hK => ?_)
      (refine wp_append_any _ (.tmp 32) (.tmp 38) _ rfl w0.heap.size 29 i0 _ 1 8 Try.underlying26 hi0 hz0' hz1 hz2 rfl (by omega) _ (0 + k + 1) _ rfl HA.out _ A2 (xs.length - k) _ ((xs.map (Value.int .u64)).drop (k * 1)) rfl (HRD2.out.below HBL.out) (fun u hu => by obtain ⟨z, _, rfl⟩ := List.mem_map.1 (List.mem_of_mem_drop hu); rfl) (by unfold maxLen; omega) (by omega) HBL.out.size ?_; intro v2 w3 hown2 hg2 hat2)
      (refine hK.out _ _ ?_ (fun hHeld => ?_))
      · exact SK.out _ (below_own HBL.out HA.out hg2)
      clear hK K
      have HC2 := Lib.hid (HC.out.grown hg2 HNE.out)
      replace HNE := Lib.hid (show some gc ≠ v2.ownBlock from by
        rcases hat2 with e | e
        · rw [e]; exact HNE.out
        · rw [e]; exact fun e => absurd (Option.some.inj e) (by have := HC.out.lt; omega))
      replace HC := HC2
      clear HC2
      replace HBL := Lib.hid (below_own HBL.out HA.out hg2)
      replace HA := Lib.hid hown2
      clear hown2 hg2 hat2
      obtain ⟨va, rfl⟩ : ∃ x : Value, x = v2 := ⟨_, rfl⟩
      obtain ⟨wc, rfl⟩ : ∃ x : World, x = w3 := ⟨_, rfl⟩
      refine stepZ 19 rfl (by kernel_rfl) (by rfl) (fun K hK => ?_)
      go_simp
      refine hK.out _ _ hHeld (fun hHeld => ?_)
      clear hK K
      ((refine takeYZ 20 (by kernel_rfl) (v := ?_) rfl (by kernel_rfl) (by kernel_rfl) (by kernel_rfl) (fun _ _ _ h => h) (by rfl) (by assumption) ?_ ?_; rotate_left; · (intro w hSw; (try dsimp only at hSw); go_simp; (first | done | with_reducible rfl))))
      (try simp only [Act.put, List.setIfInBounds_toArray, List.set_cons_zero, List.set_cons_succ])
      refine endZ rfl (by kernel_rfl) (by kernel_rfl) (by rfl) (fun K hK => ?_)
      obtain ⟨hq1, hq2⟩ := hHeld
      obtain ⟨Av, nv, cv, rfl⟩ := own_form HA.out
      go_simp
      refine hK.out _ _ ?_
      clear hK K
      have hys : RSim (xs.take k ++ p :: xs.drop k) (fun q => P q || q == p) := HS.out.ins HK.out HP.out
      have hlen : (xs.take k ++ p :: xs.drop k).length = 0 + k + 1 + (xs.length - k) := by rw [List.length_append, List.length_cons, List.length_take, List.length_drop]; omega
      have hmap : ([] ++ (xs.map (Value.int .u64)).take k ++ [Value.int .u64 p] ++ (xs.map (Value.int .u64)).drop (k * 1)) = (xs.take k ++ p :: xs.drop k).map (Value.int .u64) := by
        rw [Nat.mul_one, List.map_append, List.map_cons, List.map_take, List.map_drop, List.nil_append, List.append_assoc]; rfl
      have hA9 := HA.out
      rw [hmap] at hA9
      have hf := HR.out.put HBL.out (show B ≤ w0.heap.size from HB.out) hA9 hlen.symm
      have HF := Lib.hid (show ∃ ys, RSim ys (fun q => P q || q == p) ∧ ys.length ≤ xs.length + 1 ∧ RL (wc.setCell ⟨c, 1, none⟩ (.slice Av nv cv)) c B true (.slice Av nv cv) ys ∧ Only (fun j => j = c) w (wc.setCell ⟨c, 1, none⟩ (.slice Av nv cv)) from ⟨_, hys, by omega, hf.1, HO.out.trans hf.2⟩)
      clear hys hlen hmap hA9 hf HC HNE HA HBL HRD HRD2 HR SK HK hs1 hs2 hq1 hq2
      go_wp2
      go_ret
      obtain ⟨ys, h1, h2, h3, h4⟩ := HF.out
      exact ⟨ys, h1, h2, rfl, _, h3, h4⟩
    · go_simp
      (refine hK.out _ _ ?_ (fun hHeld => ?_))
      · exact SK.out _ (HBL.out.alloc HBL.out.size _)
      clear hK K
      have HC := Lib.hid (Blk.new wc 29 #[.int .u64 p])
      have HNE := Lib.hid (show some wc.heap.size ≠ (Value.slice (some ⟨ga, 0, none⟩) 0 0).ownBlock from fun e => absurd ((HA.out.lt _ e.symm).2) (by omega))
      replace HA := Lib.hid (HA.out.alloc (.cells #[.int .u64 p] 29))
      replace HBL := Lib.hid (HBL.out.alloc HBL.out.size (.cells #[.int .u64 p] 29))
      generalize hwn : wc.alloc (.cells #[.int .u64 p] 29) = wn at *
      clear hwn
      generalize hgc : wc.heap.size = gc at *
      clear hgc
      obtain ⟨wc, rfl⟩ : ∃ x : World, x = wn := ⟨_, rfl⟩
      refine stepZ 8 rfl (by kernel_rfl) (by rfl) (fun K hK => ?_)
      (refine wp_append_any _ (.tmp 22) (.tmp 28) _ rfl w0.heap.size 29 i0 _ 1 8 Try.underlying26 hi0 hz0' hz1 hz2 rfl (by omega) _ 0 _ rfl HA.out _ A k _ ((xs.map (Value.int .u64)).take k) rfl ((HRD.out.below HBL.out).take hkn) (fun u hu => by obtain ⟨z, _, rfl⟩ := List.mem_map.1 (List.mem_of_mem_take hu); rfl) (by unfold maxLen; omega) (by omega) HBL.out.size ?_; intro v2 w3 hown2 hg2 hat2)
      (refine hK.out _ _ ?_ (fun hHeld => ?_))
      · exact SK.out _ (below_own HBL.out HA.out hg2)
      clear hK K
      have HC2 := Lib.hid (HC.out.grown hg2 HNE.out)
      replace HNE := Lib.hid (show some gc ≠ v2.ownBlock from by
        rcases hat2 with e | e
        · rw [e]; exact HNE.out
        · rw [e]; exact fun e => absurd (Option.some.inj e) (by have := HC.out.lt; omega))
      replace HC := HC2
      clear HC2
      replace HBL := Lib.hid (below_own HBL.out HA.out hg2)
      replace HA := Lib.hid hown2
      clear hown2 hg2 hat2
      obtain ⟨va, rfl⟩ : ∃ x : Value, x = v2 := ⟨_, rfl⟩
      obtain ⟨wc, rfl⟩ : ∃ x : World, x = w3 := ⟨_, rfl⟩
      refine stepZ 11 rfl (by kernel_rfl) (by rfl) (fun K hK => ?_)
      (refine wp_append_any _ (.tmp 29) (.tmp 31) _ rfl w0.heap.size 29 i0 _ 1 8 Try.underlying26 hi0 hz0' hz1 hz2 rfl (by omega) _ (0 + k) _ rfl HA.out _ (some ⟨gc, 0, none⟩) 1 _ [.int .u64 p] rfl (Reads.of_blk1 HC.out) (by simp; rfl) (by unfold maxLen; omega) (by omega) HBL.out.size ?_; intro v2 w3 hown2 hg2 hat2)
      (refine hK.out _ _ ?_ (fun hHeld => ?_))
      · exact SK.out _ (below_own HBL.out HA.out hg2)
      clear hK K
      have HC2 := Lib.hid (HC.out.grown hg2 HNE.out)
      replace HNE := Lib.hid (show some gc ≠ v2.ownBlock from by
        rcases hat2 with e | e
        · rw [e]; exact HNE.out
        · rw [e]; exact fun e => absurd (Option.some.inj e) (by have := HC.out.lt; omega))
      replace HC := HC2
      clear HC2
      replace HBL := Lib.hid (below_own HBL.out HA.out hg2)
      replace HA := Lib.hid hown2
      clear hown2 hg2 hat2
      obtain ⟨va, rfl⟩ : ∃ x : Value, x = v2 := ⟨_, rfl⟩
      obtain ⟨wc, rfl⟩ : ∃ x : World, x = w3 := ⟨_, rfl⟩
      refine stepZ 18 rfl (by kernel_rfl) (by rfl) (fun K hK => ?_)
      (refine wp_append_any _ (.tmp 32) (.tmp 38) _ rfl w0.heap.size 29 i0 _ 1 8 Try.underlying26 hi0 hz0' hz1 hz2 rfl (by omega) _ (0 + k + 1) _ rfl HA.out _ A2 (xs.length - k) _ ((xs.map (Value.int .u64)).drop (k * 1)) rfl (HRD2.out.below HBL.out) (fun u hu => by obtain ⟨z, _, rfl⟩ := List.mem_map.1 (List.mem_of_mem_drop hu); rfl) (by unfold maxLen; omega) (by omega) HBL.out.size ?_; intro v2 w3 hown2 hg2 hat2)
      (refine hK.out _ _ ?_ (fun hHeld => ?_))
      · exact SK.out _ (below_own HBL.out HA.out hg2)
      clear hK K
      have HC2 := Lib.hid (HC.out.grown hg2 HNE.out)
      replace HNE := Lib.hid (show some gc ≠ v2.ownBlock from by
        rcases hat2 with e | e
        · rw [e]; exact HNE.out
        · rw [e]; exact fun e => absurd (Option.some.inj e) (by have := HC.out.lt; omega))
      replace HC := HC2
      clear HC2
      replace HBL := Lib.hid (below_own HBL.out HA.out hg2)
      replace HA := Lib.hid hown2
      clear hown2 hg2 hat2
      obtain ⟨va, rfl⟩ : ∃ x : Value, x = v2 := ⟨_, rfl⟩
      obtain ⟨wc, rfl⟩ : ∃ x : World, x = w3 := ⟨_, rfl⟩
      refine stepZ 19 rfl (by kernel_rfl) (by rfl) (fun K hK => ?_)
      go_simp
      refine hK.out _ _ hHeld (fun hHeld => ?_)
      clear hK K
      ((refine takeYZ 20 (by kernel_rfl) (v := ?_) rfl (by kernel_rfl) (by kernel_rfl) (by kernel_rfl) (fun _ _ _ h => h) (by rfl) (by assumption) ?_ ?_; rotate_left; · (intro w hSw; (try dsimp only at hSw); go_simp; (first | done | with_reducible rfl))))
      (try simp only [Act.put, List.setIfInBounds_toArray, List.set_cons_zero, List.set_cons_succ])
      refine endZ rfl (by kernel_rfl) (by kernel_rfl) (by rfl) (fun K hK => ?_)
      obtain ⟨hq1, hq2⟩ := hHeld
      obtain ⟨Av, nv, cv, rfl⟩ := own_form HA.out
      go_simp
      refine hK.out _ _ ?_
      clear hK K
      have hys : RSim (xs.take k ++ p :: xs.drop k) (fun q => P q || q == p) := HS.out.ins HK.out HP.out
      have hlen : (xs.take k ++ p :: xs.drop k).length = 0 + k + 1 + (xs.length - k) := by rw [List.length_append, List.length_cons, List.length_take, List.length_drop]; omega
      have hmap : ([] ++ (xs.map (Value.int .u64)).take k ++ [Value.int .u64 p] ++ (xs.map (Value.int .u64)).drop (k * 1)) = (xs.take k ++ p :: xs.drop k).map (Value.int .u64) := by
        rw [Nat.mul_one, List.map_append, List.map_cons, List.map_take, List.map_drop, List.nil_append, List.append_assoc]; rfl
      have hA9 := HA.out
      rw [hmap] at hA9
      have hf := HR.out.put HBL.out (show B ≤ w0.heap.size from HB.out) hA9 hlen.symm
      have HF := Lib.hid (show ∃ ys, RSim ys (fun q => P q || q == p) ∧ ys.length ≤ xs.length + 1 ∧ RL (wc.setCell ⟨c, 1, none⟩ (.slice Av nv cv)) c B true (.slice Av nv cv) ys ∧ Only (fun j => j = c) w (wc.setCell ⟨c, 1, none⟩ (.slice Av nv cv)) from ⟨_, hys, by omega, hf.1, HO.out.trans hf.2⟩)
      clear hys hlen hmap hA9 hf HC HNE HA HBL HRD HRD2 HR SK HK hs1 hs2 hq1 hq2
      go_wp2
      go_ret
      obtain ⟨ys, h1, h2, h3, h4⟩ := HF.out
      exact ⟨ys, h1, h2, rfl, _, h3, h4⟩
  · go_simp
    (refine hK.out _ _ ?_ (fun hHeld => ?_))
    · exact SK.out _ (HBL.out.alloc HBL.out.size _)
    clear hK K
    have HC := Lib.hid (Blk.new wc 29 #[.int .u64 p])
    replace HBL := Lib.hid (HBL.out.alloc HBL.out.size (.cells #[.int .u64 p] 29))
    generalize hwn : wc.alloc (.cells #[.int .u64 p] 29) = wn at *
    clear hwn
    generalize hgc : wc.heap.size = gc at *
    clear hgc
    obtain ⟨wc, rfl⟩ : ∃ x : World, x = wn := ⟨_, rfl⟩
    refine stepZ 1 rfl (by kernel_rfl) (by rfl) (fun K hK => ?_)
    go_simp
    (refine hK.out _ _ ?_ (fun hHeld => ?_))
    · exact SK.out _ (HBL.out.alloc HBL.out.size _)
    clear hK K
    have HA := Lib.hid (show (wc.alloc (.cells #[] 29)).ownsRow w0.heap.size 29 1 (.slice (some ⟨wc.heap.size, 0, none⟩) 0 0) 0 [] from World.ownsRow_lit wc #[] 0 HBL.out.size (by unfold maxLen; omega) rfl)
    have HNE := Lib.hid (show some gc ≠ (Value.slice (some ⟨wc.heap.size, 0, none⟩) 0 0).ownBlock from fun e => absurd (Option.some.inj e) (by have := HC.out.lt; show ¬ gc = wc.heap.size; omega))
    replace HC := Lib.hid (HC.out.alloc (.cells #[] 29))
    replace HBL := Lib.hid (HBL.out.alloc HBL.out.size (.cells #[] 29))
    generalize hwn : wc.alloc (.cells #[] 29) = wn at *
    clear hwn
    generalize hga : wc.heap.size = ga at *
    clear hga
    obtain ⟨wc, rfl⟩ : ∃ x : World, x = wn := ⟨_, rfl⟩
    refine stepZ 8 rfl (by kernel_rfl) (by rfl) (fun K hK => ?_)
    (refine wp_append_any _ (.tmp 22) (.tmp 28) _ rfl w0.heap.size 29 i0 _ 1 8 Try.underlying26 hi0 hz0' hz1 hz2 rfl (by omega) _ 0 _ rfl HA.out _ A k _ ((xs.map (Value.int .u64)).take k) rfl ((HRD.out.below HBL.out).take hkn) (fun u hu => by obtain ⟨z, _, rfl⟩ := List.mem_map.1 (List.mem_of_mem_take hu); rfl) (by unfold maxLen; omega) (by omega) HBL.out.size ?_; intro v2 w3 hown2 hg2 hat2)
    (refine hK.out _ _ ?_ (fun hHeld => ?_))
    · exact SK.out _ (below_own HBL.out HA.out hg2)
    clear hK K
    have HC2 := Lib.hid (HC.out.grown hg2 HNE.out)
    replace HNE := Lib.hid (show some gc ≠ v2.ownBlock from by
      rcases hat2 with e | e
      · rw [e]; exact HNE.out
      · rw [e]; exact fun e => absurd (Option.some.inj e) (by have := HC.out.lt; omega))
    replace HC := HC2
    clear HC2
    replace HBL := Lib.hid (below_own HBL.out HA.out hg2)
    replace HA := Lib.hid hown2
    clear hown2 hg2 hat2
    obtain ⟨va, rfl⟩ : ∃ x : Value, x = v2 := ⟨_, rfl⟩
    obtain ⟨wc, rfl⟩ : ∃ x : World, x = w3 := ⟨_, rfl⟩
    refine stepZ 11 rfl (by kernel_rfl) (by rfl) (fun K hK => ?_)
    (refine wp_append_any _ (.tmp 29) (.tmp 31) _ rfl w0.heap.size 29 i0 _ 1 8 Try.underlying26 hi0 hz0' hz1 hz2 rfl (by omega) _ (0 + k) _ rfl HA.out _ (some ⟨gc, 0, none⟩) 1 _ [.int .u64 p] rfl (Reads.of_blk1 HC.out) (by simp; rfl) (by unfold maxLen; omega) (by omega) HBL.out.size ?_; intro v2 w3 hown2 hg2 hat2)
    (refine hK.out _ _ ?_ (fun hHeld => ?_))
    · exact SK.out _ (below_own HBL.out HA.out hg2)
    clear hK K
    have HC2 := Lib.hid (HC.out.grown hg2 HNE.out)
    replace HNE := Lib.hid (show some gc ≠ v2.ownBlock from by
      rcases hat2 with e | e
      · rw [e]; exact HNE.out
      · rw [e]; exact fun e => absurd (Option.some.inj e) (by have := HC.out.lt; omega))
    replace HC := HC2
    clear HC2
    replace HBL := Lib.hid (below_own HBL.out HA.out hg2)
    replace HA := Lib.hid hown2
    clear hown2 hg2 hat2
    obtain ⟨va, rfl⟩ : ∃ x : Value, x = v2 := ⟨_, rfl⟩
    obtain ⟨wc, rfl⟩ : ∃ x : World, x = w3 := ⟨_, rfl⟩
    refine stepZ 18 rfl (by kernel_rfl) (by rfl) (fun K hK => ?_)
    (refine wp_append_any _ (.tmp 32) (.tmp 38) _ rfl w0.heap.size 29 i0 _ 1 8 Try.underlying26 hi0 hz0' hz1 hz2 rfl (by omega) _ (0 + k + 1) _ rfl HA.out _ A2 (xs.length - k) _ ((xs.map (Value.int .u64)).drop (k * 1)) rfl (HRD2.out.below HBL.out) (fun u hu => by obtain ⟨z, _, rfl⟩ := List.mem_map.1 (List.mem_of_mem_drop hu); rfl) (by unfold maxLen; omega) (by omega) HBL.out.size ?_; intro v2 w3 hown2 hg2 hat2)
    (refine hK.out _ _ ?_ (fun hHeld => ?_))
    · exact SK.out _ (below_own HBL.out HA.out hg2)
    clear hK K
    have HC2 := Lib.hid (HC.out.grown hg2 HNE.out)
    replace HNE := Lib.hid (show some gc ≠ v2.ownBlock from by
      rcases hat2 with e | e
      · rw [e]; exact HNE.out
      · rw [e]; exact fun e => absurd (Option.some.inj e) (by have := HC.out.lt; omega))
    replace HC := HC2
    clear HC2
    replace HBL := Lib.hid (below_own HBL.out HA.out hg2)
    replace HA := Lib.hid hown2
    clear hown2 hg2 hat2
    obtain ⟨va, rfl⟩ : ∃ x : Value, x = v2 := ⟨_, rfl⟩
    obtain ⟨wc, rfl⟩ : ∃ x : World, x = w3 := ⟨_, rfl⟩
    refine stepZ 19 rfl (by kernel_rfl) (by rfl) (fun K hK => ?_)
    go_simp
    refine hK.out _ _ hHeld (fun hHeld => ?_)
    clear hK K
    ((refine takeYZ 20 (by kernel_rfl) (v := ?_) rfl (by kernel_rfl) (by kernel_rfl) (by kernel_rfl) (fun _ _ _ h => h) (by rfl) (by assumption) ?_ ?_; rotate_left; · (intro w hSw; (try dsimp only at hSw); go_simp; (first | done | with_reducible rfl))))
    (try simp only [Act.put, List.setIfInBounds_toArray, List.set_cons_zero, List.set_cons_succ])
    refine endZ rfl (by kernel_rfl) (by kernel_rfl) (by rfl) (fun K hK => ?_)
    obtain ⟨hq1, hq2⟩ := hHeld
    obtain ⟨Av, nv, cv, rfl⟩ := own_form HA.out
    go_simp
    refine hK.out _ _ ?_
    clear hK K
    have hys : RSim (xs.take k ++ p :: xs.drop k) (fun q => P q || q == p) := HS.out.ins HK.out HP.out
    have hlen : (xs.take k ++ p :: xs.drop k).length = 0 + k + 1 + (xs.length - k) := by rw [List.length_append, List.length_cons, List.length_take, List.length_drop]; omega
    have hmap : ([] ++ (xs.map (Value.int .u64)).take k ++ [Value.int .u64 p] ++ (xs.map (Value.int .u64)).drop (k * 1)) = (xs.take k ++ p :: xs.drop k).map (Value.int .u64) := by
      rw [Nat.mul_one, List.map_append, List.map_cons, List.map_take, List.map_drop, List.nil_append, List.append_assoc]; rfl
    have hA9 := HA.out
    rw [hmap] at hA9
    have hf := HR.out.put HBL.out (show B ≤ w0.heap.size from HB.out) hA9 hlen.symm
    have HF := Lib.hid (show ∃ ys, RSim ys (fun q => P q || q == p) ∧ ys.length ≤ xs.length + 1 ∧ RL (wc.setCell ⟨c, 1, none⟩ (.slice Av nv cv)) c B true (.slice Av nv cv) ys ∧ Only (fun j => j = c) w (wc.setCell ⟨c, 1, none⟩ (.slice Av nv cv)) from ⟨_, hys, by omega, hf.1, HO.out.trans hf.2⟩)
    clear hys hlen hmap hA9 hf HC HNE HA HBL HRD HRD2 HR SK HK hs1 hs2 hq1 hq2
    go_wp2
    go_ret
    obtain ⟨ys, h1, h2, h3, h4⟩ := HF.out
    exact ⟨ys, h1, h2, rfl, _, h3, h4⟩
set_option maxRecDepth 100000 in
set_option maxHeartbeats 8000000 in
theorem rforget_old (c B : Nat) (on : Bool) (v : Value) (xs : List Int) (P : Int → Bool) (p : Int) (w : World) (h : RL w c B on v xs) (hs : RSim xs P) (hl : xs.length ≤ 1000) (hB : B ≤ w.heap.size) (hp : P p = true) :
    Calls Try.prog 8 #[.pointer (some ⟨c, 0, none⟩), .int .u64 p] w fun e w' => ∃ ys, RSim ys (fun q => P q && !(q == p)) ∧ ys.length ≤ xs.length ∧ RPut w c B on true ys e w' := by
  have C := Lib.hid (rat_any c B on v xs p w h hl)
  obtain ⟨i0, hi0, hz0', hz1, hz2⟩ := info_parts infoW
  have HS := Lib.hid hs
  have HR0 := Lib.hid h
  have HP := Lib.hid hp
  clear h hs hp
  go_enter Try.func8, Try.ntmps8
  go_wp2_with fail
  refine C.out.mono ?_
  rintro e w1 ⟨k, q, rfl, hk, rfl⟩
  have e1 : decide (k < xs.length ∧ ele xs k = p) = true := by
    rw [← HP.out, Bool.eq_iff_iff, decide_eq_true_eq, ← hk.mem HS.out.srt, HS.out.mem]
  rw [e1]
  have hkp := (hk.mem HS.out.srt).1 ((HS.out.mem p).2 HP.out)
  have HKP := Lib.hid hkp
  have hkn : k < xs.length := hkp.1
  clear hkp
  clear hk e1
  have HR1 := Lib.hid (HR0.out.drewN q)
  have HB1 := Lib.hid (show B ≤ (w.drewN q).heap.size from hB)
  have HO1 := Lib.hid (show Only (fun j => j = c) w (w.drewN q) from (Only.refl _ w).drewN q)
  generalize w.drewN q = w1 at *
  go_wp2_with fail
  obtain ⟨A, cc, rfl, hcc, hrd⟩ := own_slice2 HR1.out.own
  obtain ⟨A2, hA2⟩ : ∃ A2, (if cc = k + 1 then A else A.map (·.add ((k + 1) * 1))) = A2 := ⟨_, rfl⟩
  have hs1 : ∀ w' : World, (Instr.slice 26 (.slice A xs.length cc) none (some (.int .i64 (k : Int))) none).run Try.prog w' = .ok (.slice A k cc) w' := fun w' => run_cut_lo w' Try.underlying26 hi0 A xs.length cc k (by omega)
  have hs2 : ∀ w' : World, (Instr.slice 26 (.slice A xs.length cc) (some (.int .i64 (IntKind.i64.wrap ((k : Int) + 1)))) none none).run Try.prog w' = .ok (.slice A2 (xs.length - (k + 1)) (cc - (k + 1))) w' := fun w' => by
    rw [← hA2, show IntKind.i64.wrap ((k : Int) + 1) = ((k + 1 : Nat) : Int) from by rw [IntWalk.i64_in _ (by omega)]; omega]
    exact run_cut_hi w' Try.underlying26 hi0 1 hz1 A xs.length cc (k + 1) hkn
  have HRD := Lib.hid (show Reads w1.drew w1.drew.heap.size 1 A xs.length (xs.map (Value.int .u64)) from hrd)
  have HRD2 := Lib.hid (show Reads w1.drew w1.drew.heap.size 1 A2 (xs.length - (k + 1)) ((xs.map (Value.int .u64)).drop ((k + 1) * 1)) from by rw [← hA2]; exact Reads.cut (show Reads w1.drew w1.drew.heap.size 1 A xs.length (xs.map (Value.int .u64)) from hrd) hkn hcc)
  have HR := Lib.hid (HR1.out.drewN 1)
  have HB := Lib.hid (show B ≤ w1.drew.heap.size from HB1.out)
  have HO := Lib.hid (show Only (fun j => j = c) w w1.drew from HO1.out.drewN 1)
  have HR : Hid (RL w1.drew c B on (.slice A xs.length cc) xs) := HR
  have SK := Lib.hid (show ∀ w', Below w1.drew.heap.size w1.drew w' → w'.cell? ⟨c, 1, none⟩ = some (.slice A xs.length cc) ∧ w'.frozen? ⟨c, 1, none⟩ = false from fun w' hb => ⟨(HR.out.below hb).c1, (HR.out.below hb).blk.frozen 1⟩)
  clear hrd hA2 hcc
  refine beginZ (z := 19) (S := (fun w' => w'.cell? ⟨c, 1, none⟩ = some (.slice A xs.length cc) ∧ w'.frozen? ⟨c, 1, none⟩ = false)) (by kernel_rfl) ?_ (fun hHeld => ?_)
  · exact SK.out _ (Below.refl _ _)
  generalize w1.drew = w0 at *
  obtain ⟨wc, hwc, HBL, hHeld⟩ : ∃ wc, w0 = wc ∧ Hid (Below w0.heap.size w0 wc) ∧ (wc.cell? ⟨c, 1, none⟩ = some (.slice A xs.length cc) ∧ wc.frozen? ⟨c, 1, none⟩ = false) := ⟨w0, rfl, Lib.hid (Below.refl _ _), hHeld⟩
  rw [hwc]
  clear hwc
  ((refine takeYZ 0 (by kernel_rfl) (v := ?_) rfl (by kernel_rfl) (by kernel_rfl) (by kernel_rfl) (fun _ _ _ h => h) (by rfl) (by assumption) ?_ ?_; rotate_left; · (intro w hSw; (try dsimp only at hSw); go_simp; (first | done | with_reducible rfl))))
  (try simp only [Act.put, List.setIfInBounds_toArray, List.set_cons_zero, List.set_cons_succ])
  ((refine takeYZ 2 (by kernel_rfl) (v := ?_) rfl (by kernel_rfl) (by kernel_rfl) (by kernel_rfl) (fun _ _ _ h => h) (by rfl) (by assumption) ?_ ?_; rotate_left; · (intro w hSw; (try dsimp only at hSw); go_simp; (first | done | with_reducible rfl))))
  (try simp only [Act.put, List.setIfInBounds_toArray, List.set_cons_zero, List.set_cons_succ])
  ((refine takeYZ 3 (by kernel_rfl) (v := ?_) rfl (by kernel_rfl) (by kernel_rfl) (by kernel_rfl) (fun _ _ _ h => h) (by rfl) (by assumption) ?_ ?_; rotate_left; · (intro w hSw; (try dsimp only at hSw); go_simp; (first | done | with_reducible rfl))))
  (try simp only [Act.put, List.setIfInBounds_toArray, List.set_cons_zero, List.set_cons_succ])
  ((refine takeYZ 4 (by kernel_rfl) (v := ?_) rfl (by kernel_rfl) (by kernel_rfl) (by kernel_rfl) (fun _ _ _ h => h) (by rfl) (by assumption) ?_ ?_; rotate_left; · (intro w hSw; (try dsimp only at hSw); go_simp; (first | done | with_reducible rfl))))
  (try simp only [Act.put, List.setIfInBounds_toArray, List.set_cons_zero, List.set_cons_succ])
  ((refine takeYZ 5 (by kernel_rfl) (v := ?_) rfl (by kernel_rfl) (by kernel_rfl) (by kernel_rfl) (fun _ _ _ h => h) (by rfl) (by assumption) ?_ ?_; rotate_left; · (intro w hSw; (try dsimp only at hSw); go_simp; (first | done | with_reducible rfl))))
  (try simp only [Act.put, List.setIfInBounds_toArray, List.set_cons_zero, List.set_cons_succ])
  ((refine takeYZ 6 (by kernel_rfl) (v := ?_) rfl (by kernel_rfl) (by kernel_rfl) (by kernel_rfl) (fun _ _ _ h => h) (by rfl) (by assumption) ?_ ?_; rotate_left; · (intro w hSw; (try dsimp only at hSw); go_simp; (first | done | with_reducible rfl))))
  (try simp only [Act.put, List.setIfInBounds_toArray, List.set_cons_zero, List.set_cons_succ])
  ((refine takeYZ 7 (by kernel_rfl) (v := ?_) rfl (by kernel_rfl) (by kernel_rfl) (by kernel_rfl) (fun _ _ _ h => h) (by rfl) (by assumption) ?_ ?_; rotate_left; · (intro w hSw; (try dsimp only at hSw); go_simp; (first | done | with_reducible rfl))))
  (try simp only [Act.put, List.setIfInBounds_toArray, List.set_cons_zero, List.set_cons_succ])
  ((refine takeYZ 9 (by kernel_rfl) (v := ?_) rfl (by kernel_rfl) (by kernel_rfl) (by kernel_rfl) (fun _ _ _ h => h) (by rfl) (by assumption) ?_ ?_; rotate_left; · (intro w hSw; (try dsimp only at hSw); go_simp; (first | done | with_reducible rfl))))
  (try simp only [Act.put, List.setIfInBounds_toArray, List.set_cons_zero, List.set_cons_succ])
  ((refine takeYZ 10 (by kernel_rfl) (v := ?_) rfl (by kernel_rfl) (by kernel_rfl) (by kernel_rfl) (fun _ _ _ h => h) (by rfl) (by assumption) ?_ ?_; rotate_left; · (intro w hSw; (try dsimp only at hSw); go_simp; (first | done | with_reducible rfl))))
  (try simp only [Act.put, List.setIfInBounds_toArray, List.set_cons_zero, List.set_cons_succ])
  ((refine takeYZ 11 (by kernel_rfl) (v := ?_) rfl (by kernel_rfl) (by kernel_rfl) (by kernel_rfl) (fun _ _ _ h => h) (by rfl) (by assumption) ?_ ?_; rotate_left; · (intro w hSw; (try dsimp only at hSw); go_simp; (first | done | with_reducible rfl))))
  (try simp only [Act.put, List.setIfInBounds_toArray, List.set_cons_zero, List.set_cons_succ])
  ((refine takeYZ 12 (by kernel_rfl) (v := ?_) rfl (by kernel_rfl) (by kernel_rfl) (by kernel_rfl) (fun _ _ _ h => h) (by rfl) (by assumption) ?_ ?_; rotate_left; · (intro w hSw; (try dsimp only at hSw); go_simp; (first | done | with_reducible rfl))))
  (try simp only [Act.put, List.setIfInBounds_toArray, List.set_cons_zero, List.set_cons_succ])
  ((refine takeYZ 13 (by kernel_rfl) (v := ?_) rfl (by kernel_rfl) (by kernel_rfl) (by kernel_rfl) (fun _ _ _ h => h) (by rfl) (by assumption) ?_ ?_; rotate_left; · (intro w hSw; (try dsimp only at hSw); go_simp; (first | done | with_reducible rfl))))
  (try simp only [Act.put, List.setIfInBounds_toArray, List.set_cons_zero, List.set_cons_succ])
  ((refine takeYZ 14 (by kernel_rfl) (v := ?_) rfl (by kernel_rfl) (by kernel_rfl) (by kernel_rfl) (fun _ _ _ h => h) (by rfl) (by assumption) ?_ ?_; rotate_left; · (intro w hSw; (try dsimp only at hSw); go_simp; (first | done | with_reducible rfl))))
  (try simp only [Act.put, List.setIfInBounds_toArray, List.set_cons_zero, List.set_cons_succ])
  ((refine takeYZ 15 (by kernel_rfl) (v := ?_) rfl (by kernel_rfl) (by kernel_rfl) (by kernel_rfl) (fun _ _ _ h => h) (by rfl) (by assumption) ?_ ?_; rotate_left; · (intro w hSw; (try dsimp only at hSw); go_simp; (first | done | with_reducible rfl))))
  (try simp only [Act.put, List.setIfInBounds_toArray, List.set_cons_zero, List.set_cons_succ])
  refine stepZ 1 rfl (by kernel_rfl) (by rfl) (fun K hK => ?_)
  go_simp
  (refine hK.out _ _ ?_ (fun hHeld => ?_))
  · exact SK.out _ (HBL.out.alloc HBL.out.size _)
  clear hK K
  have HA := Lib.hid (show (wc.alloc (.cells #[] 29)).ownsRow w0.heap.size 29 1 (.slice (some ⟨wc.heap.size, 0, none⟩) 0 0) 0 [] from World.ownsRow_lit wc #[] 0 HBL.out.size (by unfold maxLen; omega) rfl)
  replace HBL := Lib.hid (HBL.out.alloc HBL.out.size (.cells #[] 29))
  generalize hwn : wc.alloc (.cells #[] 29) = wn at *
  clear hwn
  generalize hga : wc.heap.size = ga at *
  clear hga
  obtain ⟨wc, rfl⟩ : ∃ x : World, x = wn := ⟨_, rfl⟩
  refine stepZ 8 rfl (by kernel_rfl) (by rfl) (fun K hK => ?_)
  (refine wp_append_any _ (.tmp 15) (.tmp 21) _ rfl w0.heap.size 29 i0 _ 1 8 Try.underlying26 hi0 hz0' hz1 hz2 rfl (by omega) _ 0 _ rfl HA.out _ A k _ ((xs.map (Value.int .u64)).take k) rfl ((HRD.out.below HBL.out).take (Nat.le_of_lt hkn)) (fun u hu => by obtain ⟨z, _, rfl⟩ := List.mem_map.1 (List.mem_of_mem_take hu); rfl) (by unfold maxLen; omega) (by omega) HBL.out.size ?_; intro v2 w3 hown2 hg2 hat2)
  (refine hK.out _ _ ?_ (fun hHeld => ?_))
  · exact SK.out _ (below_own HBL.out HA.out hg2)
  clear hK K
  replace HBL := Lib.hid (below_own HBL.out HA.out hg2)
  replace HA := Lib.hid hown2
  clear hown2 hg2 hat2
  obtain ⟨va, rfl⟩ : ∃ x : Value, x = v2 := ⟨_, rfl⟩
  obtain ⟨wc, rfl⟩ : ∃ x : World, x = w3 := ⟨_, rfl⟩
  refine stepZ 16 rfl (by kernel_rfl) (by rfl) (fun K hK => ?_)
  (refine wp_append_any _ (.tmp 22) (.tmp 29) _ rfl w0.heap.size 29 i0 _ 1 8 Try.underlying26 hi0 hz0' hz1 hz2 rfl (by omega) _ (0 + k) _ rfl HA.out _ A2 (xs.length - (k + 1)) _ ((xs.map (Value.int .u64)).drop ((k + 1) * 1)) rfl (HRD2.out.below HBL.out) (fun u hu => by obtain ⟨z, _, rfl⟩ := List.mem_map.1 (List.mem_of_mem_drop hu); rfl) (by unfold maxLen; omega) (by omega) HBL.out.size ?_; intro v2 w3 hown2 hg2 hat2)
  (refine hK.out _ _ ?_ (fun hHeld => ?_))
  · exact SK.out _ (below_own HBL.out HA.out hg2)
  clear hK K
  replace HBL := Lib.hid (below_own HBL.out HA.out hg2)
  replace HA := Lib.hid hown2
  clear hown2 hg2 hat2
  obtain ⟨va, rfl⟩ : ∃ x : Value, x = v2 := ⟨_, rfl⟩
  obtain ⟨wc, rfl⟩ : ∃ x : World, x = w3 := ⟨_, rfl⟩
  refine stepZ 17 rfl (by kernel_rfl) (by rfl) (fun K hK => ?_)
  go_simp
  refine hK.out _ _ hHeld (fun hHeld => ?_)
  clear hK K
  ((refine takeYZ 18 (by kernel_rfl) (v := ?_) rfl (by kernel_rfl) (by kernel_rfl) (by kernel_rfl) (fun _ _ _ h => h) (by rfl) (by assumption) ?_ ?_; rotate_left; · (intro w hSw; (try dsimp only at hSw); go_simp; (first | done | with_reducible rfl))))
  (try simp only [Act.put, List.setIfInBounds_toArray, List.set_cons_zero, List.set_cons_succ])
  refine endZ rfl (by kernel_rfl) (by kernel_rfl) (by rfl) (fun K hK => ?_)
  obtain ⟨hq1, hq2⟩ := hHeld
  obtain ⟨Av, nv, cv, rfl⟩ := own_form HA.out
  go_simp
  refine hK.out _ _ ?_
  clear hK K
  have hys : RSim (xs.take k ++ xs.drop (k + 1)) (fun q => P q && !(q == p)) := HS.out.del HKP.out.1 HKP.out.2
  have hlen : (xs.take k ++ xs.drop (k + 1)).length = 0 + k + (xs.length - (k + 1)) := by rw [List.length_append, List.length_take, List.length_drop]; omega
  have hmap : ([] ++ (xs.map (Value.int .u64)).take k ++ (xs.map (Value.int .u64)).drop ((k + 1) * 1)) = (xs.take k ++ xs.drop (k + 1)).map (Value.int .u64) := by
    rw [Nat.mul_one, List.map_append, List.map_take, List.map_drop, List.nil_append]
  have hA9 := HA.out
  rw [hmap] at hA9
  have hf := HR.out.put HBL.out (show B ≤ w0.heap.size from HB.out) hA9 hlen.symm
  have HF := Lib.hid (show ∃ ys, RSim ys (fun q => P q && !(q == p)) ∧ ys.length ≤ xs.length ∧ RL (wc.setCell ⟨c, 1, none⟩ (.slice Av nv cv)) c B on (.slice Av nv cv) ys ∧ Only (fun j => j = c) w (wc.setCell ⟨c, 1, none⟩ (.slice Av nv cv)) from ⟨_, hys, by omega, hf.1, HO.out.trans hf.2⟩)
  clear hys hlen hmap hA9 hf HA HBL HRD HRD2 HR SK HKP hs1 hs2 hq1 hq2
  go_wp2
  go_ret
  obtain ⟨ys, h1, h2, h3, h4⟩ := HF.out
  exact ⟨ys, h1, h2, rfl, _, h3, h4⟩

theorem rnote_off (c B : Nat) (v : Value) (xs : List Int) (p : Int) (w : World) (h : RL w c B false v xs) (hl : xs.length ≤ 1000) :
    Calls Try.prog 17 #[.pointer (some ⟨c, 0, none⟩), .int .u64 p] w fun e w' => e = .returned (.bool false) ∧ ∃ q, w' = w.drewN q := by
  have C := Lib.hid (rat_any c B false v xs p w h hl)
  have HR0 := Lib.hid h
  clear h
  go_enter Try.func17, Try.ntmps17
  go_wp2_with fail
  refine C.out.mono ?_
  rintro e w1 ⟨k, q, rfl, hk, rfl⟩
  clear hk
  have c0 := (HR0.out.drewN q).c0
  cases hd : decide (k < xs.length ∧ ele xs k = p)
  · have HD := Lib.hid hd
    clear hd
    go_wp2
    go_ret
    exact ⟨rfl, _, rfl⟩
  · have HD := Lib.hid hd
    clear hd
    go_wp2
    go_ret
    exact ⟨rfl, _, rfl⟩

theorem rnote_old (c B : Nat) (on : Bool) (v : Value) (xs : List Int) (P : Int → Bool) (p : Int) (w : World) (h : RL w c B on v xs) (hs : RSim xs P) (hl : xs.length ≤ 1000) (hp : P p = true) :
    Calls Try.prog 17 #[.pointer (some ⟨c, 0, none⟩), .int .u64 p] w fun e w' => e = .returned (.bool false) ∧ ∃ q, w' = w.drewN q := by
  have C := Lib.hid (rat_any c B on v xs p w h hl)
  have HS := Lib.hid hs
  have HP := Lib.hid hp
  clear h hs hp
  go_enter Try.func17, Try.ntmps17
  go_wp2_with fail
  refine C.out.mono ?_
  rintro e w1 ⟨k, q, rfl, hk, rfl⟩
  have e1 : decide (k < xs.length ∧ ele xs k = p) = true := by
    rw [← HP.out, Bool.eq_iff_iff, decide_eq_true_eq, ← hk.mem HS.out.srt, HS.out.mem]
  rw [e1]
  clear hk e1
  go_wp2
  go_ret
  exact ⟨rfl, _, rfl⟩

theorem rforget_new (c B : Nat) (on : Bool) (v : Value) (xs : List Int) (P : Int → Bool) (p : Int) (w : World) (h : RL w c B on v xs) (hs : RSim xs P) (hl : xs.length ≤ 1000) (hp : P p = false) :
    Calls Try.prog 8 #[.pointer (some ⟨c, 0, none⟩), .int .u64 p] w fun e w' => e = .returned (.bool false) ∧ ∃ q, w' = w.drewN q := by
  have C := Lib.hid (rat_any c B on v xs p w h hl)
  have HS := Lib.hid hs
  have HP := Lib.hid hp
  clear h hs hp
  go_enter Try.func8, Try.ntmps8
  go_wp2_with fail
  refine C.out.mono ?_
  rintro e w1 ⟨k, q, rfl, hk, rfl⟩
  have e1 : decide (k < xs.length ∧ ele xs k = p) = false := by
    rw [← HP.out, Bool.eq_iff_iff, decide_eq_true_eq, ← hk.mem HS.out.srt, HS.out.mem]
  rw [e1]
  clear hk e1
  go_wp2
  go_ret
  exact ⟨rfl, _, rfl⟩
end Go.Proofs.Ythnefhkacgkacaa
