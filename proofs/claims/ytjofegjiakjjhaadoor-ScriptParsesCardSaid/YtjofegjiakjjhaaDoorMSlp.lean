import Derived.Test.YtjofegjiakjjhaaDoorMSld0
import Derived.Test.YtjofegjiakjjhaaDoorMSlc
import Derived.Test.YtjofegjiakjjhaaDoorMSrz
/- Script, the law ScriptParses. -/
namespace Go.Proofs.YtjofegjiakjjhaaDoor
open Go.RowKit Go.Lib Mf

theorem byte_in {z : Int} (h : (Lit.int .u8 z).wf = true) : 0 ≤ z ∧ z < 256 := by
  simp only [Lit.wf, IntKind.min, IntKind.max, Bool.and_eq_true] at h
  have h1 := h.1
  have h2 := h.2
  simp [IntKind.bits, IntKind.signed] at h1 h2
  omega
def LpR (W w2 : World) (v91 : Value) (wr : World) : Prop := ∃ i : Nat, v91 = .int .i64 i ∧ i ≤ 2 ∧ Below w2.heap.size w2 wr ∧ Below W.heap.size W wr
def LpC (W : World) (v14 : Value) (wr : World) : Prop := ∃ y : Bs, v14 = bv y ∧ y.length ≤ 1000 ∧ Below W.heap.size W wr
theorem tmod_nat (a : Int) (m : Nat) (hm : 0 < m) : ∃ i : Nat, Int.tmod (Int.tmod a m + m) m = (i : Int) ∧ i < m ∧ -(m : Int) < Int.tmod a m ∧ Int.tmod a m < m := by
  have h1 := tmod_bd a m (by omega)
  have h2 := Int.tmod_nonneg (m : Int) (show 0 ≤ Int.tmod a m + m by omega)
  have h3 := tmod_bd (Int.tmod a m + m) m (by omega)
  exact ⟨(Int.tmod (Int.tmod a m + m) m).toNat, by omega, by omega, h1.1, h1.2⟩
theorem convG {w : World} {g : Nat} {k : UInt8} {z : Int} (hz : z = (k.toNat : Int)) (h : w.cell? ⟨g, 0, none⟩ = some (.int .u8 z)) : (convert 35 9 (.slice (some ⟨g, 0, none⟩) 1 1)).run Tryd.prog w = .ok (bv [k]) w :=
  run_convert_bytes_back _ 35 9 5 ⟨g, 0, none⟩ 1 [k] Tryd.underlying35 Tryd.underlying5 Tryd.underlying9 fun j hj => by
    have : j = 0 := by simp at hj; exact hj
    subst this
    subst hz
    exact h
set_option maxRecDepth 20000 in
set_option maxHeartbeats 8000000 in
theorem scriptParses_walk {W : World} (t : Bs) (s : St) (A : Option Addr) (c1 : Nat) (at9 cz how : Int) (hs : s.ok) (hP : Reads W W.heap.size 1 A s.fails.length (s.fails.map Value.bool)) (hc1 : s.fails.length ≤ c1) (hm1 : c1 ≤ maxLen) (hcz : 0 ≤ cz) (hcz2 : cz < 256) (he : Env W) :
    Calls Tryd.prog 4 #[bv t, .agg (stC s (.slice A s.fails.length c1)), .int .i64 at9, .int .u8 cz, .int .i64 how] W fun e W' => e = .returned (.bool true) ∧ Below W.heap.size W W' := by
  obtain ⟨ch, rfl⟩ : ∃ ch : UInt8, cz = (ch.toNat : Int) := ⟨UInt8.ofNat cz.toNat, by rw [UInt8.toNat_ofNat']; omega⟩
  clear hcz hcz2
  obtain ⟨n, hn⟩ : ∃ n, t.length = n := ⟨_, rfl⟩
  have HN := Lib.hid hn
  have HB := Lib.hid (show Blk (W.alloc (.cells (stC s (.slice A s.fails.length c1)) 25)) W.heap.size 25 (stC s (.slice A s.fails.length c1)) from Blk.new _ _ _)
  have HBE := Lib.hid ((Below.refl W.heap.size W).alloc (Nat.le_refl _) (.cells (stC s (.slice A s.fails.length c1)) 25))
  have HE := Lib.hid he
  have HSO := Lib.hid hs
  have HNR := Lib.hid (fun w (hb : Below W.heap.size W w) => rnear s hs A c1 hc1 (Nat.le_trans hc1 hm1) w ((hP.below hb).more hb.size))
  obtain ⟨nf, hnf⟩ : ∃ nf, s.fails.length = nf := ⟨_, rfl⟩
  clear he hP hs hc1
  unfold stC at HBE HB ⊢
  rw [hnf] at HB HBE HNR ⊢
  clear hnf
  go_enter Tryd.func4, Tryd.ntmps4
  go_upto_region 1 with fail
  generalize W.alloc _ = w1 at *
  have cs := stC_cells (show Blk w1 W.heap.size 25 (stC s (.slice A nf c1)) from HB.out)
  by_cases hbig : 1200 < n
  · have q : decide ((n : Int) > 1200) = true := decide_eq_true (by omega)
    have q' : decide (1200 < n) = true := decide_eq_true hbig
    go_wp2_with fail
    refine (told_any (HE.out.below HBE.out)).mono ?_; rintro e wn ⟨rfl, hb⟩
    go_wp2
    go_ret
    exact ⟨rfl, HBE.out.trans (hb.mono HBE.out.size)⟩
  · have q : decide ((n : Int) > 1200) = false := decide_eq_false (by omega)
    have q' : decide (1200 < n) = false := decide_eq_false hbig
    go_wp2_with fail
    refine (HNR.out _ HBE.out).mono ?_; rintro e w2 ⟨F', rfl, hW, hb⟩
    obtain ⟨FA, Fc, rfl⟩ := hW.form
    have hno := near_ok HSO.out
    obtain ⟨x, hx1, hx2⟩ := near_line s
    have HX1 := Lib.hid hx1
    have hxl := isT_len hno.1.towf hx2
    have hx0 : x ≠ [] := fun e => by have := isT_skip hx2; rw [e] at this; cases this
    have HRT := Lib.hid (rtext (nearS s) hno.1 _ w2 ⟨FA, Fc, rfl, Reads.of_own hW⟩ (by omega))
    replace HBE := Lib.hid (HBE.out.trans (hb.mono HBE.out.size))
    have hx9 : x.length ≤ 300 := by omega
    have hxp : 0 < x.length := List.length_pos_iff.2 hx0
    clear hb hW hx1 hx2 hxl hx0 hno HNR HB cs
    go_wp2_with fail
    refine HRT.out.mono ?_; rintro e w3 ⟨rfl, hb⟩
    rw [HX1.out]
    dsimp only
    replace HBE := Lib.hid (HBE.out.trans (hb.mono HBE.out.size))
    clear hb HRT
    obtain ⟨m, hm⟩ : ∃ m, x.length = m := ⟨_, rfl⟩
    rw [hm] at hx9 hxp
    obtain ⟨i, hi1, hi2, hi3, hi4⟩ := tmod_nat at9 m hxp
    obtain ⟨b, hb⟩ : ∃ b, Int.tmod at9 (m : Int) = b := ⟨_, rfl⟩
    rw [hb] at hi1 hi3 hi4
    have hwb : IntKind.i64.wrap (b + (m : Int)) = b + (m : Int) := IntWalk.i64_in _ (by omega)
    have hm0 : ((m : Int) == 0) = false := beq_eq_false_iff_ne.2 (by omega)
    obtain ⟨k, hk1, hk2, hk3, hk4⟩ := tmod_nat how 6 (by omega)
    obtain ⟨b2, hb2⟩ : ∃ b, Int.tmod how 6 = b := ⟨_, rfl⟩
    rw [show ((6 : Nat) : Int) = 6 from rfl, hb2] at hk1 hk3 hk4
    have hw6 : IntKind.i64.wrap (b2 + 6) = b2 + 6 := IntWalk.i64_in _ (by omega)
    have hwi : IntKind.i64.wrap ((i : Int) + 1) = ((i + 1 : Nat) : Int) := by rw [IntWalk.i64_in _ (by omega)]; omega
    have e0 := extract_bv x 0 i
    rw [List.drop_zero] at e0
    have e1 := extract_bv x (i + 1) m
    have e2 := extract_bv x i m
    rw [show x.take m = x from List.take_of_length_le (by omega)] at e1 e2
    have li : i ≤ m := by omega
    have li1 : i + 1 ≤ m := by omega
    have lz : (0 : Int) ≤ (i : Int) + 1 := by omega
    have lz2 : (i : Int) + 1 ≤ (m : Int) := by omega
    have lz3 : (i : Int) ≤ (m : Int) := by omega
    obtain ⟨p, hp⟩ : ∃ p, x.take i = p := ⟨_, rfl⟩
    obtain ⟨q5, hq5⟩ : ∃ p, x.drop (i + 1) = p := ⟨_, rfl⟩
    obtain ⟨r5, hr5⟩ : ∃ p, x.drop i = p := ⟨_, rfl⟩
    have lp : p.length ≤ 300 := by rw [← hp, List.length_take]; omega
    have lq : q5.length ≤ 300 := by rw [← hq5, List.length_drop]; omega
    have lr : r5.length ≤ 300 := by rw [← hr5, List.length_drop]; omega
    rw [hp] at e0
    rw [hq5] at e1
    rw [hr5] at e2
    have c1' : ¬ 9223372036854775807 < p.length + 1 := by omega
    have c2 : ¬ 9223372036854775807 < p.length + 1 + q5.length := by omega
    have c3 : ¬ 9223372036854775807 < p.length + q5.length := by omega
    have c4 : ¬ 9223372036854775807 < p.length + 1 + r5.length := by omega
    have c5 : ¬ 9223372036854775807 < m + 1 := by omega
    have c6 : ¬ 9223372036854775807 < m + 1 + m := by omega
    clear hp hq5 hr5
    obtain ⟨y, hy, hyl⟩ : ∃ y : Bs, (#[bv x, bv ((p ++ [ch]) ++ q5), bv (p ++ q5), bv ((p ++ [ch]) ++ r5), bv p, bv ((x ++ [32]) ++ x)] : Array Value)[k]? = some (bv y) ∧ y.length ≤ 1000 := by
      rcases (show k = 0 ∨ k = 1 ∨ k = 2 ∨ k = 3 ∨ k = 4 ∨ k = 5 by omega) with rfl | rfl | rfl | rfl | rfl | rfl
      · exact ⟨_, rfl, by omega⟩
      · exact ⟨_, rfl, by simp only [List.length_append, List.length_singleton]; omega⟩
      · exact ⟨_, rfl, by simp only [List.length_append]; omega⟩
      · exact ⟨_, rfl, by simp only [List.length_append, List.length_singleton]; omega⟩
      · exact ⟨_, rfl, by omega⟩
      · exact ⟨_, rfl, by simp only [List.length_append, List.length_singleton]; omega⟩
    have hk6 : (k : Int) < 6 := by omega
    go_upto_region 5 with fail
    go_cut [14] (LpC W)
    case first =>
      refine wp_region_held_drew (S := (fun _ => True)) (by kernel_rfl) ?_ (fun hHeld => ?_)
      · trivial
      replace HBE := Lib.hid (HBE.out.drew)
      generalize w3.drew = wv at *
      obtain ⟨wd, rfl⟩ : ∃ x : World, x = wv := ⟨_, rfl⟩
      ((refine takeY 0 (v := ?_) rfl (by kernel_rfl) (by kernel_rfl) (by kernel_rfl) (fun _ _ _ h => h) (by rfl) (by assumption) ?_ ?_; rotate_left; · (intro w hSw; (try dsimp only at hSw); go_simp; (first | done | with_reducible rfl))))
      (try simp only [Act.put, List.setIfInBounds_toArray, List.set_cons_zero, List.set_cons_succ])
      ((refine takeY 1 (v := ?_) rfl (by kernel_rfl) (by kernel_rfl) (by kernel_rfl) (fun _ _ _ h => h) (by rfl) (by assumption) ?_ ?_; rotate_left; · (intro w hSw; (try dsimp only at hSw); go_simp; (first | done | with_reducible rfl))))
      (try simp only [Act.put, List.setIfInBounds_toArray, List.set_cons_zero, List.set_cons_succ])
      ((refine takeY 2 (v := ?_) rfl (by kernel_rfl) (by kernel_rfl) (by kernel_rfl) (fun _ _ _ h => h) (by rfl) (by assumption) ?_ ?_; rotate_left; · (intro w hSw; (try dsimp only at hSw); go_simp; (first | done | with_reducible rfl))))
      (try simp only [Act.put, List.setIfInBounds_toArray, List.set_cons_zero, List.set_cons_succ])
      ((refine takeY 3 (v := ?_) rfl (by kernel_rfl) (by kernel_rfl) (by kernel_rfl) (fun _ _ _ h => h) (by rfl) (by assumption) ?_ ?_; rotate_left; · (intro w hSw; (try dsimp only at hSw); go_simp; (first | done | with_reducible rfl))))
      (try simp only [Act.put, List.setIfInBounds_toArray, List.set_cons_zero, List.set_cons_succ])
      ((refine takeY 4 (v := ?_) rfl (by kernel_rfl) (by kernel_rfl) (by kernel_rfl) (fun _ _ _ h => h) (by rfl) (by assumption) ?_ ?_; rotate_left; · (intro w hSw; (try dsimp only at hSw); go_simp; (first | done | with_reducible rfl))))
      (try simp only [Act.put, List.setIfInBounds_toArray, List.set_cons_zero, List.set_cons_succ])
      ((refine takeY 8 (v := ?_) rfl (by kernel_rfl) (by kernel_rfl) (by kernel_rfl) (fun _ _ _ h => h) (by rfl) (by assumption) ?_ ?_; rotate_left; · (intro w hSw; (try dsimp only at hSw); go_simp; (first | done | with_reducible rfl))))
      (try simp only [Act.put, List.setIfInBounds_toArray, List.set_cons_zero, List.set_cons_succ])
      ((refine takeY 9 (v := ?_) rfl (by kernel_rfl) (by kernel_rfl) (by kernel_rfl) (fun _ _ _ h => h) (by rfl) (by assumption) ?_ ?_; rotate_left; · (intro w hSw; (try dsimp only at hSw); go_simp; (first | done | with_reducible rfl))))
      (try simp only [Act.put, List.setIfInBounds_toArray, List.set_cons_zero, List.set_cons_succ])
      ((refine takeY 10 (v := ?_) rfl (by kernel_rfl) (by kernel_rfl) (by kernel_rfl) (fun _ _ _ h => h) (by rfl) (by assumption) ?_ ?_; rotate_left; · (intro w hSw; (try dsimp only at hSw); go_simp; (first | done | with_reducible rfl))))
      (try simp only [Act.put, List.setIfInBounds_toArray, List.set_cons_zero, List.set_cons_succ])
      ((refine takeY 11 (v := ?_) rfl (by kernel_rfl) (by kernel_rfl) (by kernel_rfl) (fun _ _ _ h => h) (by rfl) (by assumption) ?_ ?_; rotate_left; · (intro w hSw; (try dsimp only at hSw); go_simp; (first | done | with_reducible rfl))))
      (try simp only [Act.put, List.setIfInBounds_toArray, List.set_cons_zero, List.set_cons_succ])
      ((refine takeY 13 (v := ?_) rfl (by kernel_rfl) (by kernel_rfl) (by kernel_rfl) (fun _ _ _ h => h) (by rfl) (by assumption) ?_ ?_; rotate_left; · (intro w hSw; (try dsimp only at hSw); go_simp; (first | done | with_reducible rfl))))
      (try simp only [Act.put, List.setIfInBounds_toArray, List.set_cons_zero, List.set_cons_succ])
      ((refine takeY 14 (v := ?_) rfl (by kernel_rfl) (by kernel_rfl) (by kernel_rfl) (fun _ _ _ h => h) (by rfl) (by assumption) ?_ ?_; rotate_left; · (intro w hSw; (try dsimp only at hSw); go_simp; (first | done | with_reducible rfl))))
      (try simp only [Act.put, List.setIfInBounds_toArray, List.set_cons_zero, List.set_cons_succ])
      ((refine takeY 15 (v := ?_) rfl (by kernel_rfl) (by kernel_rfl) (by kernel_rfl) (fun _ _ _ h => h) (by rfl) (by assumption) ?_ ?_; rotate_left; · (intro w hSw; (try dsimp only at hSw); go_simp; (first | done | with_reducible rfl))))
      (try simp only [Act.put, List.setIfInBounds_toArray, List.set_cons_zero, List.set_cons_succ])
      ((refine takeY 16 (v := ?_) rfl (by kernel_rfl) (by kernel_rfl) (by kernel_rfl) (fun _ _ _ h => h) (by rfl) (by assumption) ?_ ?_; rotate_left; · (intro w hSw; (try dsimp only at hSw); go_simp; (first | done | with_reducible rfl))))
      (try simp only [Act.put, List.setIfInBounds_toArray, List.set_cons_zero, List.set_cons_succ])
      ((refine takeY 17 (v := ?_) rfl (by kernel_rfl) (by kernel_rfl) (by kernel_rfl) (fun _ _ _ h => h) (by rfl) (by assumption) ?_ ?_; rotate_left; · (intro w hSw; (try dsimp only at hSw); go_simp; (first | done | with_reducible rfl))))
      (try simp only [Act.put, List.setIfInBounds_toArray, List.set_cons_zero, List.set_cons_succ])
      ((refine takeY 18 (v := ?_) rfl (by kernel_rfl) (by kernel_rfl) (by kernel_rfl) (fun _ _ _ h => h) (by rfl) (by assumption) ?_ ?_; rotate_left; · (intro w hSw; (try dsimp only at hSw); go_simp; (first | done | with_reducible rfl))))
      (try simp only [Act.put, List.setIfInBounds_toArray, List.set_cons_zero, List.set_cons_succ])
      ((refine takeY 19 (v := ?_) rfl (by kernel_rfl) (by kernel_rfl) (by kernel_rfl) (fun _ _ _ h => h) (by rfl) (by assumption) ?_ ?_; rotate_left; · (intro w hSw; (try dsimp only at hSw); go_simp; (first | done | with_reducible rfl))))
      (try simp only [Act.put, List.setIfInBounds_toArray, List.set_cons_zero, List.set_cons_succ])
      ((refine takeY 20 (v := ?_) rfl (by kernel_rfl) (by kernel_rfl) (by kernel_rfl) (fun _ _ _ h => h) (by rfl) (by assumption) ?_ ?_; rotate_left; · (intro w hSw; (try dsimp only at hSw); go_simp; (first | done | with_reducible rfl))))
      (try simp only [Act.put, List.setIfInBounds_toArray, List.set_cons_zero, List.set_cons_succ])
      ((refine takeY 21 (v := ?_) rfl (by kernel_rfl) (by kernel_rfl) (by kernel_rfl) (fun _ _ _ h => h) (by rfl) (by assumption) ?_ ?_; rotate_left; · (intro w hSw; (try dsimp only at hSw); go_simp; (first | done | with_reducible rfl))))
      (try simp only [Act.put, List.setIfInBounds_toArray, List.set_cons_zero, List.set_cons_succ])
      ((refine takeY 22 (v := ?_) rfl (by kernel_rfl) (by kernel_rfl) (by kernel_rfl) (fun _ _ _ h => h) (by rfl) (by assumption) ?_ ?_; rotate_left; · (intro w hSw; (try dsimp only at hSw); go_simp; (first | done | with_reducible rfl))))
      (try simp only [Act.put, List.setIfInBounds_toArray, List.set_cons_zero, List.set_cons_succ])
      ((refine takeY 23 (v := ?_) rfl (by kernel_rfl) (by kernel_rfl) (by kernel_rfl) (fun _ _ _ h => h) (by rfl) (by assumption) ?_ ?_; rotate_left; · (intro w hSw; (try dsimp only at hSw); go_simp; (first | done | with_reducible rfl))))
      (try simp only [Act.put, List.setIfInBounds_toArray, List.set_cons_zero, List.set_cons_succ])
      ((refine takeY 24 (v := ?_) rfl (by kernel_rfl) (by kernel_rfl) (by kernel_rfl) (fun _ _ _ h => h) (by rfl) (by assumption) ?_ ?_; rotate_left; · (intro w hSw; (try dsimp only at hSw); go_simp; (first | done | with_reducible rfl))))
      (try simp only [Act.put, List.setIfInBounds_toArray, List.set_cons_zero, List.set_cons_succ])
      ((refine takeY 28 (v := ?_) rfl (by kernel_rfl) (by kernel_rfl) (by kernel_rfl) (fun _ _ _ h => h) (by rfl) (by assumption) ?_ ?_; rotate_left; · (intro w hSw; (try dsimp only at hSw); go_simp; (first | done | with_reducible rfl))))
      (try simp only [Act.put, List.setIfInBounds_toArray, List.set_cons_zero, List.set_cons_succ])
      ((refine takeY 29 (v := ?_) rfl (by kernel_rfl) (by kernel_rfl) (by kernel_rfl) (fun _ _ _ h => h) (by rfl) (by assumption) ?_ ?_; rotate_left; · (intro w hSw; (try dsimp only at hSw); go_simp; (first | done | with_reducible rfl))))
      (try simp only [Act.put, List.setIfInBounds_toArray, List.set_cons_zero, List.set_cons_succ])
      ((refine takeY 30 (v := ?_) rfl (by kernel_rfl) (by kernel_rfl) (by kernel_rfl) (fun _ _ _ h => h) (by rfl) (by assumption) ?_ ?_; rotate_left; · (intro w hSw; (try dsimp only at hSw); go_simp; (first | done | with_reducible rfl))))
      (try simp only [Act.put, List.setIfInBounds_toArray, List.set_cons_zero, List.set_cons_succ])
      ((refine takeY 32 (v := ?_) rfl (by kernel_rfl) (by kernel_rfl) (by kernel_rfl) (fun _ _ _ h => h) (by rfl) (by assumption) ?_ ?_; rotate_left; · (intro w hSw; (try dsimp only at hSw); go_simp; (first | done | with_reducible rfl))))
      (try simp only [Act.put, List.setIfInBounds_toArray, List.set_cons_zero, List.set_cons_succ])
      ((refine takeY 33 (v := ?_) rfl (by kernel_rfl) (by kernel_rfl) (by kernel_rfl) (fun _ _ _ h => h) (by rfl) (by assumption) ?_ ?_; rotate_left; · (intro w hSw; (try dsimp only at hSw); go_simp; (first | done | with_reducible rfl))))
      (try simp only [Act.put, List.setIfInBounds_toArray, List.set_cons_zero, List.set_cons_succ])
      ((refine takeY 34 (v := ?_) rfl (by kernel_rfl) (by kernel_rfl) (by kernel_rfl) (fun _ _ _ h => h) (by rfl) (by assumption) ?_ ?_; rotate_left; · (intro w hSw; (try dsimp only at hSw); go_simp; (first | done | with_reducible rfl))))
      (try simp only [Act.put, List.setIfInBounds_toArray, List.set_cons_zero, List.set_cons_succ])
      ((refine takeY 35 (v := ?_) rfl (by kernel_rfl) (by kernel_rfl) (by kernel_rfl) (fun _ _ _ h => h) (by rfl) (by assumption) ?_ ?_; rotate_left; · (intro w hSw; (try dsimp only at hSw); go_simp; (first | done | with_reducible rfl))))
      (try simp only [Act.put, List.setIfInBounds_toArray, List.set_cons_zero, List.set_cons_succ])
      ((refine takeY 36 (v := ?_) rfl (by kernel_rfl) (by kernel_rfl) (by kernel_rfl) (fun _ _ _ h => h) (by rfl) (by assumption) ?_ ?_; rotate_left; · (intro w hSw; (try dsimp only at hSw); go_simp; (first | done | with_reducible rfl))))
      (try simp only [Act.put, List.setIfInBounds_toArray, List.set_cons_zero, List.set_cons_succ])
      ((refine takeY 37 (v := ?_) rfl (by kernel_rfl) (by kernel_rfl) (by kernel_rfl) (fun _ _ _ h => h) (by rfl) (by assumption) ?_ ?_; rotate_left; · (intro w hSw; (try dsimp only at hSw); go_simp; (first | done | with_reducible rfl))))
      (try simp only [Act.put, List.setIfInBounds_toArray, List.set_cons_zero, List.set_cons_succ])
      ((refine takeY 38 (v := ?_) rfl (by kernel_rfl) (by kernel_rfl) (by kernel_rfl) (fun _ _ _ h => h) (by rfl) (by assumption) ?_ ?_; rotate_left; · (intro w hSw; (try dsimp only at hSw); go_simp; (first | done | with_reducible rfl))))
      (try simp only [Act.put, List.setIfInBounds_toArray, List.set_cons_zero, List.set_cons_succ])
      ((refine takeY 40 (v := ?_) rfl (by kernel_rfl) (by kernel_rfl) (by kernel_rfl) (fun _ _ _ h => h) (by rfl) (by assumption) ?_ ?_; rotate_left; · (intro w hSw; (try dsimp only at hSw); go_simp; (first | done | with_reducible rfl))))
      (try simp only [Act.put, List.setIfInBounds_toArray, List.set_cons_zero, List.set_cons_succ])
      ((refine takeY 41 (v := ?_) rfl (by kernel_rfl) (by kernel_rfl) (by kernel_rfl) (fun _ _ _ h => h) (by rfl) (by assumption) ?_ ?_; rotate_left; · (intro w hSw; (try dsimp only at hSw); go_simp; (first | done | with_reducible rfl))))
      (try simp only [Act.put, List.setIfInBounds_toArray, List.set_cons_zero, List.set_cons_succ])
      ((refine takeY 42 (v := ?_) rfl (by kernel_rfl) (by kernel_rfl) (by kernel_rfl) (fun _ _ _ h => h) (by rfl) (by assumption) ?_ ?_; rotate_left; · (intro w hSw; (try dsimp only at hSw); go_simp; (first | done | with_reducible rfl))))
      (try simp only [Act.put, List.setIfInBounds_toArray, List.set_cons_zero, List.set_cons_succ])
      ((refine takeY 43 (v := ?_) rfl (by kernel_rfl) (by kernel_rfl) (by kernel_rfl) (fun _ _ _ h => h) (by rfl) (by assumption) ?_ ?_; rotate_left; · (intro w hSw; (try dsimp only at hSw); go_simp; (first | done | with_reducible rfl))))
      (try simp only [Act.put, List.setIfInBounds_toArray, List.set_cons_zero, List.set_cons_succ])
      refine wpAnyH_ready (rs := [5, 25]) (by kernel_rfl) (by simp) ?_
      refine consH 5 rfl (by rfl) (fun K hK => ?_) (consH 25 rfl (by rfl) (fun K hK => ?_) (AllReadyH.nil))
      · go_simp
        (refine hK.out _ _ trivial (fun hHeld => ?_))
        clear hK K
        generalize hwa : wd.alloc _ = we
        have H1 := Lib.hid (show Blk we wd.heap.size 5 #[.int .u8 (ch.toNat : Int)] from by rw [← hwa]; exact Blk.new _ _ _)
        have hbx : Below wd.heap.size wd we := by rw [← hwa]; exact (Below.refl _ _).alloc (Nat.le_refl _) _
        replace HBE := Lib.hid (HBE.out.trans (hbx.mono HBE.out.size))
        clear hwa hbx
        generalize wd.heap.size = g1 at *
        obtain ⟨wd, rfl⟩ : ∃ x : World, x = we := ⟨_, rfl⟩
        refine wpAnyH_ready (rs := [6, 25]) (by kernel_rfl) (by simp) ?_
        refine consH 6 rfl (by rfl) (fun K hK => ?_) (consH 25 rfl (by rfl) (fun K hK => ?_) (AllReadyH.nil))
        · have e9 := convG rfl ((H1.out.cell 0).trans rfl)
          go_simp
          (refine hK.out _ _ trivial (fun hHeld => ?_))
          clear hK K e9
          ((refine takeY 7 (v := ?_) rfl (by kernel_rfl) (by kernel_rfl) (by kernel_rfl) (fun _ _ _ h => h) (by rfl) (by assumption) ?_ ?_; rotate_left; · (intro w hSw; (try dsimp only at hSw); go_simp; (first | done | with_reducible rfl))))
          (try simp only [Act.put, List.setIfInBounds_toArray, List.set_cons_zero, List.set_cons_succ])
          ((refine takeY 12 (v := ?_) rfl (by kernel_rfl) (by kernel_rfl) (by kernel_rfl) (fun _ _ _ h => h) (by rfl) (by assumption) ?_ ?_; rotate_left; · (intro w hSw; (try dsimp only at hSw); go_simp; (first | done | with_reducible rfl))))
          (try simp only [Act.put, List.setIfInBounds_toArray, List.set_cons_zero, List.set_cons_succ])
          refine stepH 25 rfl (by kernel_rfl) (by rfl) (fun K hK => ?_)
          go_simp
          (refine hK.out _ _ trivial (fun hHeld => ?_))
          clear hK K
          generalize hwa : wd.alloc _ = we
          have H2 := Lib.hid (show Blk we wd.heap.size 5 #[.int .u8 (ch.toNat : Int)] from by rw [← hwa]; exact Blk.new _ _ _)
          have hbx : Below wd.heap.size wd we := by rw [← hwa]; exact (Below.refl _ _).alloc (Nat.le_refl _) _
          replace HBE := Lib.hid (HBE.out.trans (hbx.mono HBE.out.size))
          replace H1 := Lib.hid (H1.out.below hbx H1.out.lt)
          clear hwa hbx
          generalize wd.heap.size = g2 at *
          obtain ⟨wd, rfl⟩ : ∃ x : World, x = we := ⟨_, rfl⟩
          refine stepH 26 rfl (by kernel_rfl) (by rfl) (fun K hK => ?_)
          have e9 := convG rfl ((H2.out.cell 0).trans rfl)
          go_simp
          (refine hK.out _ _ trivial (fun hHeld => ?_))
          clear hK K e9
          ((refine takeY 27 (v := ?_) rfl (by kernel_rfl) (by kernel_rfl) (by kernel_rfl) (fun _ _ _ h => h) (by rfl) (by assumption) ?_ ?_; rotate_left; · (intro w hSw; (try dsimp only at hSw); go_simp; (first | done | with_reducible rfl))))
          (try simp only [Act.put, List.setIfInBounds_toArray, List.set_cons_zero, List.set_cons_succ])
          ((refine takeY 31 (v := ?_) rfl (by kernel_rfl) (by kernel_rfl) (by kernel_rfl) (fun _ _ _ h => h) (by rfl) (by assumption) ?_ ?_; rotate_left; · (intro w hSw; (try dsimp only at hSw); go_simp; (first | done | with_reducible rfl))))
          (try simp only [Act.put, List.setIfInBounds_toArray, List.set_cons_zero, List.set_cons_succ])
          refine stepH 39 rfl (by kernel_rfl) (by rfl) (fun K hK => ?_)
          go_simp
          (refine hK.out _ _ trivial (fun hHeld => ?_))
          clear hK K
          generalize hwa : wd.alloc _ = we
          have H6 := Lib.hid (show Blk we wd.heap.size 9 #[bv x, bv ((p ++ [ch]) ++ q5), bv (p ++ q5), bv ((p ++ [ch]) ++ r5), bv p, bv ((x ++ [32]) ++ x)] from by rw [← hwa]; simp only [bv, bv_app]; exact Blk.new _ _ _)
          have hbx : Below wd.heap.size wd we := by rw [← hwa]; exact (Below.refl _ _).alloc (Nat.le_refl _) _
          replace HBE := Lib.hid (HBE.out.trans (hbx.mono HBE.out.size))
          clear hwa hbx
          generalize wd.heap.size = g6 at *
          obtain ⟨wd, rfl⟩ : ∃ x : World, x = we := ⟨_, rfl⟩
          ((refine takeY 44 (v := ?_) rfl (by kernel_rfl) (by kernel_rfl) (by kernel_rfl) (fun _ _ _ h => h) (by rfl) (by assumption) ?_ ?_; rotate_left; · (intro w hSw; (try dsimp only at hSw); go_simp; (first | done | with_reducible rfl))))
          (try simp only [Act.put, List.setIfInBounds_toArray, List.set_cons_zero, List.set_cons_succ])
          refine stepH 45 rfl (by kernel_rfl) (by rfl) (fun K hK => ?_)
          have hld := (H6.out.cell k).trans hy
          go_simp
          (refine hK.out _ _ trivial (fun hHeld => ?_))
          clear hK K
          ((refine takeY 46 (v := ?_) rfl (by kernel_rfl) (by kernel_rfl) (by kernel_rfl) (fun _ _ _ h => h) (by rfl) (by assumption) ?_ ?_; rotate_left; · (intro w hSw; (try dsimp only at hSw); go_simp; (first | done | with_reducible rfl))))
          (try simp only [Act.put, List.setIfInBounds_toArray, List.set_cons_zero, List.set_cons_succ])
          refine wpAnyH_done (by kernel_rfl) ?_ _
          clear hHeld
          go_wp2
          go_meet
          exact ⟨y, rfl, hyl, HBE.out⟩
        · go_simp
          (refine hK.out _ _ trivial (fun hHeld => ?_))
          clear hK K
          generalize hwa : wd.alloc _ = we
          have H2 := Lib.hid (show Blk we wd.heap.size 5 #[.int .u8 (ch.toNat : Int)] from by rw [← hwa]; exact Blk.new _ _ _)
          have hbx : Below wd.heap.size wd we := by rw [← hwa]; exact (Below.refl _ _).alloc (Nat.le_refl _) _
          replace HBE := Lib.hid (HBE.out.trans (hbx.mono HBE.out.size))
          replace H1 := Lib.hid (H1.out.below hbx H1.out.lt)
          clear hwa hbx
          generalize wd.heap.size = g2 at *
          obtain ⟨wd, rfl⟩ : ∃ x : World, x = we := ⟨_, rfl⟩
          refine wpAnyH_ready (rs := [6, 26]) (by kernel_rfl) (by simp) ?_
          refine consH 6 rfl (by rfl) (fun K hK => ?_) (consH 26 rfl (by rfl) (fun K hK => ?_) (AllReadyH.nil))
          · have e9 := convG rfl ((H1.out.cell 0).trans rfl)
            go_simp
            (refine hK.out _ _ trivial (fun hHeld => ?_))
            clear hK K e9
            ((refine takeY 7 (v := ?_) rfl (by kernel_rfl) (by kernel_rfl) (by kernel_rfl) (fun _ _ _ h => h) (by rfl) (by assumption) ?_ ?_; rotate_left; · (intro w hSw; (try dsimp only at hSw); go_simp; (first | done | with_reducible rfl))))
            (try simp only [Act.put, List.setIfInBounds_toArray, List.set_cons_zero, List.set_cons_succ])
            ((refine takeY 12 (v := ?_) rfl (by kernel_rfl) (by kernel_rfl) (by kernel_rfl) (fun _ _ _ h => h) (by rfl) (by assumption) ?_ ?_; rotate_left; · (intro w hSw; (try dsimp only at hSw); go_simp; (first | done | with_reducible rfl))))
            (try simp only [Act.put, List.setIfInBounds_toArray, List.set_cons_zero, List.set_cons_succ])
            refine stepH 26 rfl (by kernel_rfl) (by rfl) (fun K hK => ?_)
            have e9 := convG rfl ((H2.out.cell 0).trans rfl)
            go_simp
            (refine hK.out _ _ trivial (fun hHeld => ?_))
            clear hK K e9
            ((refine takeY 27 (v := ?_) rfl (by kernel_rfl) (by kernel_rfl) (by kernel_rfl) (fun _ _ _ h => h) (by rfl) (by assumption) ?_ ?_; rotate_left; · (intro w hSw; (try dsimp only at hSw); go_simp; (first | done | with_reducible rfl))))
            (try simp only [Act.put, List.setIfInBounds_toArray, List.set_cons_zero, List.set_cons_succ])
            ((refine takeY 31 (v := ?_) rfl (by kernel_rfl) (by kernel_rfl) (by kernel_rfl) (fun _ _ _ h => h) (by rfl) (by assumption) ?_ ?_; rotate_left; · (intro w hSw; (try dsimp only at hSw); go_simp; (first | done | with_reducible rfl))))
            (try simp only [Act.put, List.setIfInBounds_toArray, List.set_cons_zero, List.set_cons_succ])
            refine stepH 39 rfl (by kernel_rfl) (by rfl) (fun K hK => ?_)
            go_simp
            (refine hK.out _ _ trivial (fun hHeld => ?_))
            clear hK K
            generalize hwa : wd.alloc _ = we
            have H6 := Lib.hid (show Blk we wd.heap.size 9 #[bv x, bv ((p ++ [ch]) ++ q5), bv (p ++ q5), bv ((p ++ [ch]) ++ r5), bv p, bv ((x ++ [32]) ++ x)] from by rw [← hwa]; simp only [bv, bv_app]; exact Blk.new _ _ _)
            have hbx : Below wd.heap.size wd we := by rw [← hwa]; exact (Below.refl _ _).alloc (Nat.le_refl _) _
            replace HBE := Lib.hid (HBE.out.trans (hbx.mono HBE.out.size))
            clear hwa hbx
            generalize wd.heap.size = g6 at *
            obtain ⟨wd, rfl⟩ : ∃ x : World, x = we := ⟨_, rfl⟩
            ((refine takeY 44 (v := ?_) rfl (by kernel_rfl) (by kernel_rfl) (by kernel_rfl) (fun _ _ _ h => h) (by rfl) (by assumption) ?_ ?_; rotate_left; · (intro w hSw; (try dsimp only at hSw); go_simp; (first | done | with_reducible rfl))))
            (try simp only [Act.put, List.setIfInBounds_toArray, List.set_cons_zero, List.set_cons_succ])
            refine stepH 45 rfl (by kernel_rfl) (by rfl) (fun K hK => ?_)
            have hld := (H6.out.cell k).trans hy
            go_simp
            (refine hK.out _ _ trivial (fun hHeld => ?_))
            clear hK K
            ((refine takeY 46 (v := ?_) rfl (by kernel_rfl) (by kernel_rfl) (by kernel_rfl) (fun _ _ _ h => h) (by rfl) (by assumption) ?_ ?_; rotate_left; · (intro w hSw; (try dsimp only at hSw); go_simp; (first | done | with_reducible rfl))))
            (try simp only [Act.put, List.setIfInBounds_toArray, List.set_cons_zero, List.set_cons_succ])
            refine wpAnyH_done (by kernel_rfl) ?_ _
            clear hHeld
            go_wp2
            go_meet
            exact ⟨y, rfl, hyl, HBE.out⟩
          · have e9 := convG rfl ((H2.out.cell 0).trans rfl)
            go_simp
            (refine hK.out _ _ trivial (fun hHeld => ?_))
            clear hK K e9
            ((refine takeY 27 (v := ?_) rfl (by kernel_rfl) (by kernel_rfl) (by kernel_rfl) (fun _ _ _ h => h) (by rfl) (by assumption) ?_ ?_; rotate_left; · (intro w hSw; (try dsimp only at hSw); go_simp; (first | done | with_reducible rfl))))
            (try simp only [Act.put, List.setIfInBounds_toArray, List.set_cons_zero, List.set_cons_succ])
            ((refine takeY 31 (v := ?_) rfl (by kernel_rfl) (by kernel_rfl) (by kernel_rfl) (fun _ _ _ h => h) (by rfl) (by assumption) ?_ ?_; rotate_left; · (intro w hSw; (try dsimp only at hSw); go_simp; (first | done | with_reducible rfl))))
            (try simp only [Act.put, List.setIfInBounds_toArray, List.set_cons_zero, List.set_cons_succ])
            refine stepH 6 rfl (by kernel_rfl) (by rfl) (fun K hK => ?_)
            have e9 := convG rfl ((H1.out.cell 0).trans rfl)
            go_simp
            (refine hK.out _ _ trivial (fun hHeld => ?_))
            clear hK K e9
            ((refine takeY 7 (v := ?_) rfl (by kernel_rfl) (by kernel_rfl) (by kernel_rfl) (fun _ _ _ h => h) (by rfl) (by assumption) ?_ ?_; rotate_left; · (intro w hSw; (try dsimp only at hSw); go_simp; (first | done | with_reducible rfl))))
            (try simp only [Act.put, List.setIfInBounds_toArray, List.set_cons_zero, List.set_cons_succ])
            ((refine takeY 12 (v := ?_) rfl (by kernel_rfl) (by kernel_rfl) (by kernel_rfl) (fun _ _ _ h => h) (by rfl) (by assumption) ?_ ?_; rotate_left; · (intro w hSw; (try dsimp only at hSw); go_simp; (first | done | with_reducible rfl))))
            (try simp only [Act.put, List.setIfInBounds_toArray, List.set_cons_zero, List.set_cons_succ])
            refine stepH 39 rfl (by kernel_rfl) (by rfl) (fun K hK => ?_)
            go_simp
            (refine hK.out _ _ trivial (fun hHeld => ?_))
            clear hK K
            generalize hwa : wd.alloc _ = we
            have H6 := Lib.hid (show Blk we wd.heap.size 9 #[bv x, bv ((p ++ [ch]) ++ q5), bv (p ++ q5), bv ((p ++ [ch]) ++ r5), bv p, bv ((x ++ [32]) ++ x)] from by rw [← hwa]; simp only [bv, bv_app]; exact Blk.new _ _ _)
            have hbx : Below wd.heap.size wd we := by rw [← hwa]; exact (Below.refl _ _).alloc (Nat.le_refl _) _
            replace HBE := Lib.hid (HBE.out.trans (hbx.mono HBE.out.size))
            clear hwa hbx
            generalize wd.heap.size = g6 at *
            obtain ⟨wd, rfl⟩ : ∃ x : World, x = we := ⟨_, rfl⟩
            ((refine takeY 44 (v := ?_) rfl (by kernel_rfl) (by kernel_rfl) (by kernel_rfl) (fun _ _ _ h => h) (by rfl) (by assumption) ?_ ?_; rotate_left; · (intro w hSw; (try dsimp only at hSw); go_simp; (first | done | with_reducible rfl))))
            (try simp only [Act.put, List.setIfInBounds_toArray, List.set_cons_zero, List.set_cons_succ])
            refine stepH 45 rfl (by kernel_rfl) (by rfl) (fun K hK => ?_)
            have hld := (H6.out.cell k).trans hy
            go_simp
            (refine hK.out _ _ trivial (fun hHeld => ?_))
            clear hK K
            ((refine takeY 46 (v := ?_) rfl (by kernel_rfl) (by kernel_rfl) (by kernel_rfl) (fun _ _ _ h => h) (by rfl) (by assumption) ?_ ?_; rotate_left; · (intro w hSw; (try dsimp only at hSw); go_simp; (first | done | with_reducible rfl))))
            (try simp only [Act.put, List.setIfInBounds_toArray, List.set_cons_zero, List.set_cons_succ])
            refine wpAnyH_done (by kernel_rfl) ?_ _
            clear hHeld
            go_wp2
            go_meet
            exact ⟨y, rfl, hyl, HBE.out⟩
      · go_simp
        (refine hK.out _ _ trivial (fun hHeld => ?_))
        clear hK K
        generalize hwa : wd.alloc _ = we
        have H2 := Lib.hid (show Blk we wd.heap.size 5 #[.int .u8 (ch.toNat : Int)] from by rw [← hwa]; exact Blk.new _ _ _)
        have hbx : Below wd.heap.size wd we := by rw [← hwa]; exact (Below.refl _ _).alloc (Nat.le_refl _) _
        replace HBE := Lib.hid (HBE.out.trans (hbx.mono HBE.out.size))
        clear hwa hbx
        generalize wd.heap.size = g2 at *
        obtain ⟨wd, rfl⟩ : ∃ x : World, x = we := ⟨_, rfl⟩
        refine wpAnyH_ready (rs := [5, 26]) (by kernel_rfl) (by simp) ?_
        refine consH 5 rfl (by rfl) (fun K hK => ?_) (consH 26 rfl (by rfl) (fun K hK => ?_) (AllReadyH.nil))
        · go_simp
          (refine hK.out _ _ trivial (fun hHeld => ?_))
          clear hK K
          generalize hwa : wd.alloc _ = we
          have H1 := Lib.hid (show Blk we wd.heap.size 5 #[.int .u8 (ch.toNat : Int)] from by rw [← hwa]; exact Blk.new _ _ _)
          have hbx : Below wd.heap.size wd we := by rw [← hwa]; exact (Below.refl _ _).alloc (Nat.le_refl _) _
          replace HBE := Lib.hid (HBE.out.trans (hbx.mono HBE.out.size))
          replace H2 := Lib.hid (H2.out.below hbx H2.out.lt)
          clear hwa hbx
          generalize wd.heap.size = g1 at *
          obtain ⟨wd, rfl⟩ : ∃ x : World, x = we := ⟨_, rfl⟩
          refine wpAnyH_ready (rs := [6, 26]) (by kernel_rfl) (by simp) ?_
          refine consH 6 rfl (by rfl) (fun K hK => ?_) (consH 26 rfl (by rfl) (fun K hK => ?_) (AllReadyH.nil))
          · have e9 := convG rfl ((H1.out.cell 0).trans rfl)
            go_simp
            (refine hK.out _ _ trivial (fun hHeld => ?_))
            clear hK K e9
            ((refine takeY 7 (v := ?_) rfl (by kernel_rfl) (by kernel_rfl) (by kernel_rfl) (fun _ _ _ h => h) (by rfl) (by assumption) ?_ ?_; rotate_left; · (intro w hSw; (try dsimp only at hSw); go_simp; (first | done | with_reducible rfl))))
            (try simp only [Act.put, List.setIfInBounds_toArray, List.set_cons_zero, List.set_cons_succ])
            ((refine takeY 12 (v := ?_) rfl (by kernel_rfl) (by kernel_rfl) (by kernel_rfl) (fun _ _ _ h => h) (by rfl) (by assumption) ?_ ?_; rotate_left; · (intro w hSw; (try dsimp only at hSw); go_simp; (first | done | with_reducible rfl))))
            (try simp only [Act.put, List.setIfInBounds_toArray, List.set_cons_zero, List.set_cons_succ])
            refine stepH 26 rfl (by kernel_rfl) (by rfl) (fun K hK => ?_)
            have e9 := convG rfl ((H2.out.cell 0).trans rfl)
            go_simp
            (refine hK.out _ _ trivial (fun hHeld => ?_))
            clear hK K e9
            ((refine takeY 27 (v := ?_) rfl (by kernel_rfl) (by kernel_rfl) (by kernel_rfl) (fun _ _ _ h => h) (by rfl) (by assumption) ?_ ?_; rotate_left; · (intro w hSw; (try dsimp only at hSw); go_simp; (first | done | with_reducible rfl))))
            (try simp only [Act.put, List.setIfInBounds_toArray, List.set_cons_zero, List.set_cons_succ])
            ((refine takeY 31 (v := ?_) rfl (by kernel_rfl) (by kernel_rfl) (by kernel_rfl) (fun _ _ _ h => h) (by rfl) (by assumption) ?_ ?_; rotate_left; · (intro w hSw; (try dsimp only at hSw); go_simp; (first | done | with_reducible rfl))))
            (try simp only [Act.put, List.setIfInBounds_toArray, List.set_cons_zero, List.set_cons_succ])
            refine stepH 39 rfl (by kernel_rfl) (by rfl) (fun K hK => ?_)
            go_simp
            (refine hK.out _ _ trivial (fun hHeld => ?_))
            clear hK K
            generalize hwa : wd.alloc _ = we
            have H6 := Lib.hid (show Blk we wd.heap.size 9 #[bv x, bv ((p ++ [ch]) ++ q5), bv (p ++ q5), bv ((p ++ [ch]) ++ r5), bv p, bv ((x ++ [32]) ++ x)] from by rw [← hwa]; simp only [bv, bv_app]; exact Blk.new _ _ _)
            have hbx : Below wd.heap.size wd we := by rw [← hwa]; exact (Below.refl _ _).alloc (Nat.le_refl _) _
            replace HBE := Lib.hid (HBE.out.trans (hbx.mono HBE.out.size))
            clear hwa hbx
            generalize wd.heap.size = g6 at *
            obtain ⟨wd, rfl⟩ : ∃ x : World, x = we := ⟨_, rfl⟩
            ((refine takeY 44 (v := ?_) rfl (by kernel_rfl) (by kernel_rfl) (by kernel_rfl) (fun _ _ _ h => h) (by rfl) (by assumption) ?_ ?_; rotate_left; · (intro w hSw; (try dsimp only at hSw); go_simp; (first | done | with_reducible rfl))))
            (try simp only [Act.put, List.setIfInBounds_toArray, List.set_cons_zero, List.set_cons_succ])
            refine stepH 45 rfl (by kernel_rfl) (by rfl) (fun K hK => ?_)
            have hld := (H6.out.cell k).trans hy
            go_simp
            (refine hK.out _ _ trivial (fun hHeld => ?_))
            clear hK K
            ((refine takeY 46 (v := ?_) rfl (by kernel_rfl) (by kernel_rfl) (by kernel_rfl) (fun _ _ _ h => h) (by rfl) (by assumption) ?_ ?_; rotate_left; · (intro w hSw; (try dsimp only at hSw); go_simp; (first | done | with_reducible rfl))))
            (try simp only [Act.put, List.setIfInBounds_toArray, List.set_cons_zero, List.set_cons_succ])
            refine wpAnyH_done (by kernel_rfl) ?_ _
            clear hHeld
            go_wp2
            go_meet
            exact ⟨y, rfl, hyl, HBE.out⟩
          · have e9 := convG rfl ((H2.out.cell 0).trans rfl)
            go_simp
            (refine hK.out _ _ trivial (fun hHeld => ?_))
            clear hK K e9
            ((refine takeY 27 (v := ?_) rfl (by kernel_rfl) (by kernel_rfl) (by kernel_rfl) (fun _ _ _ h => h) (by rfl) (by assumption) ?_ ?_; rotate_left; · (intro w hSw; (try dsimp only at hSw); go_simp; (first | done | with_reducible rfl))))
            (try simp only [Act.put, List.setIfInBounds_toArray, List.set_cons_zero, List.set_cons_succ])
            ((refine takeY 31 (v := ?_) rfl (by kernel_rfl) (by kernel_rfl) (by kernel_rfl) (fun _ _ _ h => h) (by rfl) (by assumption) ?_ ?_; rotate_left; · (intro w hSw; (try dsimp only at hSw); go_simp; (first | done | with_reducible rfl))))
            (try simp only [Act.put, List.setIfInBounds_toArray, List.set_cons_zero, List.set_cons_succ])
            refine stepH 6 rfl (by kernel_rfl) (by rfl) (fun K hK => ?_)
            have e9 := convG rfl ((H1.out.cell 0).trans rfl)
            go_simp
            (refine hK.out _ _ trivial (fun hHeld => ?_))
            clear hK K e9
            ((refine takeY 7 (v := ?_) rfl (by kernel_rfl) (by kernel_rfl) (by kernel_rfl) (fun _ _ _ h => h) (by rfl) (by assumption) ?_ ?_; rotate_left; · (intro w hSw; (try dsimp only at hSw); go_simp; (first | done | with_reducible rfl))))
            (try simp only [Act.put, List.setIfInBounds_toArray, List.set_cons_zero, List.set_cons_succ])
            ((refine takeY 12 (v := ?_) rfl (by kernel_rfl) (by kernel_rfl) (by kernel_rfl) (fun _ _ _ h => h) (by rfl) (by assumption) ?_ ?_; rotate_left; · (intro w hSw; (try dsimp only at hSw); go_simp; (first | done | with_reducible rfl))))
            (try simp only [Act.put, List.setIfInBounds_toArray, List.set_cons_zero, List.set_cons_succ])
            refine stepH 39 rfl (by kernel_rfl) (by rfl) (fun K hK => ?_)
            go_simp
            (refine hK.out _ _ trivial (fun hHeld => ?_))
            clear hK K
            generalize hwa : wd.alloc _ = we
            have H6 := Lib.hid (show Blk we wd.heap.size 9 #[bv x, bv ((p ++ [ch]) ++ q5), bv (p ++ q5), bv ((p ++ [ch]) ++ r5), bv p, bv ((x ++ [32]) ++ x)] from by rw [← hwa]; simp only [bv, bv_app]; exact Blk.new _ _ _)
            have hbx : Below wd.heap.size wd we := by rw [← hwa]; exact (Below.refl _ _).alloc (Nat.le_refl _) _
            replace HBE := Lib.hid (HBE.out.trans (hbx.mono HBE.out.size))
            clear hwa hbx
            generalize wd.heap.size = g6 at *
            obtain ⟨wd, rfl⟩ : ∃ x : World, x = we := ⟨_, rfl⟩
            ((refine takeY 44 (v := ?_) rfl (by kernel_rfl) (by kernel_rfl) (by kernel_rfl) (fun _ _ _ h => h) (by rfl) (by assumption) ?_ ?_; rotate_left; · (intro w hSw; (try dsimp only at hSw); go_simp; (first | done | with_reducible rfl))))
            (try simp only [Act.put, List.setIfInBounds_toArray, List.set_cons_zero, List.set_cons_succ])
            refine stepH 45 rfl (by kernel_rfl) (by rfl) (fun K hK => ?_)
            have hld := (H6.out.cell k).trans hy
            go_simp
            (refine hK.out _ _ trivial (fun hHeld => ?_))
            clear hK K
            ((refine takeY 46 (v := ?_) rfl (by kernel_rfl) (by kernel_rfl) (by kernel_rfl) (fun _ _ _ h => h) (by rfl) (by assumption) ?_ ?_; rotate_left; · (intro w hSw; (try dsimp only at hSw); go_simp; (first | done | with_reducible rfl))))
            (try simp only [Act.put, List.setIfInBounds_toArray, List.set_cons_zero, List.set_cons_succ])
            refine wpAnyH_done (by kernel_rfl) ?_ _
            clear hHeld
            go_wp2
            go_meet
            exact ⟨y, rfl, hyl, HBE.out⟩
        · have e9 := convG rfl ((H2.out.cell 0).trans rfl)
          go_simp
          (refine hK.out _ _ trivial (fun hHeld => ?_))
          clear hK K e9
          ((refine takeY 27 (v := ?_) rfl (by kernel_rfl) (by kernel_rfl) (by kernel_rfl) (fun _ _ _ h => h) (by rfl) (by assumption) ?_ ?_; rotate_left; · (intro w hSw; (try dsimp only at hSw); go_simp; (first | done | with_reducible rfl))))
          (try simp only [Act.put, List.setIfInBounds_toArray, List.set_cons_zero, List.set_cons_succ])
          ((refine takeY 31 (v := ?_) rfl (by kernel_rfl) (by kernel_rfl) (by kernel_rfl) (fun _ _ _ h => h) (by rfl) (by assumption) ?_ ?_; rotate_left; · (intro w hSw; (try dsimp only at hSw); go_simp; (first | done | with_reducible rfl))))
          (try simp only [Act.put, List.setIfInBounds_toArray, List.set_cons_zero, List.set_cons_succ])
          refine stepH 5 rfl (by kernel_rfl) (by rfl) (fun K hK => ?_)
          go_simp
          (refine hK.out _ _ trivial (fun hHeld => ?_))
          clear hK K
          generalize hwa : wd.alloc _ = we
          have H1 := Lib.hid (show Blk we wd.heap.size 5 #[.int .u8 (ch.toNat : Int)] from by rw [← hwa]; exact Blk.new _ _ _)
          have hbx : Below wd.heap.size wd we := by rw [← hwa]; exact (Below.refl _ _).alloc (Nat.le_refl _) _
          replace HBE := Lib.hid (HBE.out.trans (hbx.mono HBE.out.size))
          replace H2 := Lib.hid (H2.out.below hbx H2.out.lt)
          clear hwa hbx
          generalize wd.heap.size = g1 at *
          obtain ⟨wd, rfl⟩ : ∃ x : World, x = we := ⟨_, rfl⟩
          refine stepH 6 rfl (by kernel_rfl) (by rfl) (fun K hK => ?_)
          have e9 := convG rfl ((H1.out.cell 0).trans rfl)
          go_simp
          (refine hK.out _ _ trivial (fun hHeld => ?_))
          clear hK K e9
          ((refine takeY 7 (v := ?_) rfl (by kernel_rfl) (by kernel_rfl) (by kernel_rfl) (fun _ _ _ h => h) (by rfl) (by assumption) ?_ ?_; rotate_left; · (intro w hSw; (try dsimp only at hSw); go_simp; (first | done | with_reducible rfl))))
          (try simp only [Act.put, List.setIfInBounds_toArray, List.set_cons_zero, List.set_cons_succ])
          ((refine takeY 12 (v := ?_) rfl (by kernel_rfl) (by kernel_rfl) (by kernel_rfl) (fun _ _ _ h => h) (by rfl) (by assumption) ?_ ?_; rotate_left; · (intro w hSw; (try dsimp only at hSw); go_simp; (first | done | with_reducible rfl))))
          (try simp only [Act.put, List.setIfInBounds_toArray, List.set_cons_zero, List.set_cons_succ])
          refine stepH 39 rfl (by kernel_rfl) (by rfl) (fun K hK => ?_)
          go_simp
          (refine hK.out _ _ trivial (fun hHeld => ?_))
          clear hK K
          generalize hwa : wd.alloc _ = we
          have H6 := Lib.hid (show Blk we wd.heap.size 9 #[bv x, bv ((p ++ [ch]) ++ q5), bv (p ++ q5), bv ((p ++ [ch]) ++ r5), bv p, bv ((x ++ [32]) ++ x)] from by rw [← hwa]; simp only [bv, bv_app]; exact Blk.new _ _ _)
          have hbx : Below wd.heap.size wd we := by rw [← hwa]; exact (Below.refl _ _).alloc (Nat.le_refl _) _
          replace HBE := Lib.hid (HBE.out.trans (hbx.mono HBE.out.size))
          clear hwa hbx
          generalize wd.heap.size = g6 at *
          obtain ⟨wd, rfl⟩ : ∃ x : World, x = we := ⟨_, rfl⟩
          ((refine takeY 44 (v := ?_) rfl (by kernel_rfl) (by kernel_rfl) (by kernel_rfl) (fun _ _ _ h => h) (by rfl) (by assumption) ?_ ?_; rotate_left; · (intro w hSw; (try dsimp only at hSw); go_simp; (first | done | with_reducible rfl))))
          (try simp only [Act.put, List.setIfInBounds_toArray, List.set_cons_zero, List.set_cons_succ])
          refine stepH 45 rfl (by kernel_rfl) (by rfl) (fun K hK => ?_)
          have hld := (H6.out.cell k).trans hy
          go_simp
          (refine hK.out _ _ trivial (fun hHeld => ?_))
          clear hK K
          ((refine takeY 46 (v := ?_) rfl (by kernel_rfl) (by kernel_rfl) (by kernel_rfl) (fun _ _ _ h => h) (by rfl) (by assumption) ?_ ?_; rotate_left; · (intro w hSw; (try dsimp only at hSw); go_simp; (first | done | with_reducible rfl))))
          (try simp only [Act.put, List.setIfInBounds_toArray, List.set_cons_zero, List.set_cons_succ])
          refine wpAnyH_done (by kernel_rfl) ?_ _
          clear hHeld
          go_wp2
          go_meet
          exact ⟨y, rfl, hyl, HBE.out⟩
    case rest =>
      clear HBE
      obtain ⟨y, rfl, hyl, hbe⟩ := hcut
      have HBE := Lib.hid hbe
      clear hbe
      go_upto_region 7 with fail
      generalize hwa : wc.alloc _ = w4
      have H2 := Lib.hid (show Blk w4 wc.heap.size 9 #[bv t, bv y] from by rw [← hwa]; exact Blk.new _ _ _)
      have hbx : Below wc.heap.size wc w4 := by rw [← hwa]; exact (Below.refl _ _).alloc (Nat.le_refl _) _
      replace HBE := Lib.hid (HBE.out.trans (hbx.mono HBE.out.size))
      have HE4 := Lib.hid (HE.out.below HBE.out)
      clear hwa hbx
      generalize wc.heap.size = g at *
      go_wp2_with fail
      go_loopw [91] (LpR W w4) (fun v _ => 2 - cntZ v)
      case atStart => exact ⟨0, rfl, by omega, Below.refl _ _, HBE.out⟩
      case round =>
        clear HBE
        obtain ⟨j, rfl, hj, hb4, hbe⟩ := hrel
        have HB4 := Lib.hid hb4
        have HBE := Lib.hid hbe
        clear hb4 hbe
        by_cases hin : j < 2
        · have d1 : decide ((j : Int) < 2) = true := decide_eq_true (by omega)
          have d1' : decide (j < 2) = true := decide_eq_true hin
          have hin2 : (j : Int) < 2 := by omega
          obtain ⟨z, hz, hzl⟩ : ∃ z : Bs, (#[bv t, bv y] : Array Value)[j]? = some (bv z) ∧ z.length ≤ 1200 := by
            rcases (show j = 0 ∨ j = 1 by omega) with rfl | rfl
            · exact ⟨t, rfl, by omega⟩
            · exact ⟨y, rfl, by omega⟩
          have hld := ((H2.out.below HB4.out H2.out.lt).cell j).trans hz
          go_wp2_with fail
          refine (lparse z (by omega) (HE4.out.below HB4.out)).mono ?_; rintro e w5 ⟨s1, F1, k1, rfl, hp1, hok1, hW1, hfl1, hb⟩
          obtain ⟨FA1, Fc1, rfl⟩ := hW1.form
          have HW1 := Lib.hid hW1
          replace HB4 := Lib.hid (HB4.out.trans (hb.mono HB4.out.size))
          replace HBE := Lib.hid (HBE.out.trans (hb.mono HBE.out.size))
          clear hb hW1 hld
          go_upto_region 10 with fail
          generalize hwa : w5.alloc _ = wa
          have HB17 := Lib.hid (show Blk wa w5.heap.size 25 (stC s1 (.slice FA1 s1.fails.length Fc1)) from by rw [← hwa]; exact Blk.new _ _ _)
          have hbx : Below w5.heap.size w5 wa := by rw [← hwa]; exact (Below.refl _ _).alloc (Nat.le_refl _) _
          replace HB4 := Lib.hid (HB4.out.trans (hbx.mono HB4.out.size))
          replace HBE := Lib.hid (HBE.out.trans (hbx.mono HBE.out.size))
          replace HW1 := Lib.hid (own_below HW1.out hbx)
          clear hwa hbx
          generalize w5.heap.size = b17 at *
          go_wp2_with fail
          refine (rparse z (by omega) _).mono ?_; rintro e w6 ⟨s2, F2, k2, rfl, hp2, hok2, hW2, hfl2, hb⟩
          obtain ⟨rfl, rfl⟩ := hp1.unique hp2
          obtain ⟨FA2, Fc2, rfl⟩ := hW2.form
          have HW2 := Lib.hid hW2
          replace HB17 := Lib.hid (HB17.out.below hb HB17.out.lt)
          replace HB4 := Lib.hid (HB4.out.trans (hb.mono HB4.out.size))
          replace HBE := Lib.hid (HBE.out.trans (hb.mono HBE.out.size))
          replace HW1 := Lib.hid (own_below HW1.out hb)
          clear hb hW2 hp1 hp2 hok1 hok2
          go_upto_region 11 with fail
          generalize hwa : w6.alloc _ = wb
          have HB19 := Lib.hid (show Blk wb w6.heap.size 25 (stC s1 (.slice FA2 s1.fails.length Fc2)) from by rw [← hwa]; exact Blk.new _ _ _)
          have hbx : Below w6.heap.size w6 wb := by rw [← hwa]; exact (Below.refl _ _).alloc (Nat.le_refl _) _
          replace HB17 := Lib.hid (HB17.out.below hbx HB17.out.lt)
          replace HB4 := Lib.hid (HB4.out.trans (hbx.mono HB4.out.size))
          replace HBE := Lib.hid (HBE.out.trans (hbx.mono HBE.out.size))
          replace HW1 := Lib.hid (own_below HW1.out hbx)
          replace HW2 := Lib.hid (own_below HW2.out hbx)
          clear hwa hbx
          generalize w6.heap.size = b19 at *
          have cs1 := stC_cells HB17.out
          have cs2 := stC_cells HB19.out
          go_wp2_with fail
          refine (rsame s1 s1 _ _ _ ⟨FA1, Fc1, rfl, Reads.of_own HW1.out⟩ ⟨FA2, Fc2, rfl, Reads.of_own HW2.out⟩ (by omega) (by omega)).mono ?_; rintro e w7 ⟨rfl, hb⟩
          rw [(sameS_iff s1 s1).2 rfl]
          replace HB4 := Lib.hid (HB4.out.trans (hb.mono HB4.out.size))
          replace HBE := Lib.hid (HBE.out.trans (hb.mono HBE.out.size))
          clear hb cs1 cs2
          have q9 : (k1 == k1) = true := beq_self_eq_true _
          go_wp2
          exact ⟨⟨j + 1, by go_num, by omega, HB4.out, HBE.out⟩, by simp [cntZ]; omega⟩
        · obtain rfl : j = 2 := by omega
          go_wp2_with fail
          refine (told_any (HE4.out.below HB4.out)).mono ?_; rintro e wn ⟨rfl, hb⟩
          go_wp2
          go_ret
          exact ⟨rfl, HBE.out.trans (hb.mono HBE.out.size)⟩
end Go.Proofs.YtjofegjiakjjhaaDoor
