import Derived.Test.YtjofegjiakjjhaaDoorMSpt
import Derived.BigQuiet
/- Script, plain law: results as lines. -/
namespace Go.Proofs.YtjofegjiakjjhaaDoor
open Go.Lib

structure Rs where
  code : Int
  value : Int
  stage : Int
  fkind : Int
  level : Int
  faddr : Int
  store : Bool
  pages : List Int
structure Rs.ok (r : Rs) : Prop where
  code : i64ok r.code
  v0 : 0 ≤ r.value
  v1 : r.value < 18446744073709551616
  stage : i64ok r.stage
  fkind : i64ok r.fkind
  level : i64ok r.level
  a0 : 0 ≤ r.faddr
  a1 : r.faddr < 18446744073709551616
  pg : ∀ x ∈ r.pages, 0 ≤ x ∧ x < 18446744073709551616
def rsC (r : Rs) (P : Value) : Array Value := #[.int .i64 r.code, .int .u64 r.value, .int .i64 r.stage, .int .i64 r.fkind, .int .i64 r.level, .int .u64 r.faddr, .bool r.store, P]
def thd (r : Rs) : Bs := if r.code = 0 then [111, 107] else [101, 114, 114, 111, 114]
def tl1 (r : Rs) : List Bs := if r.code = 0 then [] else [itoa r.code]
def tl2 (r : Rs) : List Bs := tl1 r ++ if r.value = 0 then [] else [hexW r.value.toNat]
def tl3 (r : Rs) : List Bs := tl2 r ++ if r.stage = 0 then [] else [[102, 97, 117, 108, 116], itoa r.stage, itoa r.fkind, itoa r.level, hexW r.faddr.toNat]
def tl4 (r : Rs) : List Bs := tl3 r ++ if r.stage ≠ 0 ∧ r.store = true then [[115, 116, 111, 114, 101]] else []
def tl5 (r : Rs) : List Bs := tl4 r ++ if r.pages = [] then [] else [[112, 97, 103, 101, 115]]
def pgW (l : List Int) : List Bs := l.map fun x => hexW x.toNat
/-- A result as a line. -/
def TellS (r : Rs) : Bs := join (thd r :: (tl5 r ++ pgW r.pages)) [32]
theorem itoa_len (n : Int) (h : i64ok n) : (itoa n).length ≤ 20 := by
  unfold itoa
  split
  · rw [List.length_cons]
    have := decD_len 19 n.natAbs (by omega) (by have := h.1; have := h.2; omega)
    omega
  · have := decD_len 19 n.toNat (by omega) (by have := h.1; have := h.2; omega)
    omega
end Go.Proofs.YtjofegjiakjjhaaDoor
/- Script, the document's own: Tell. -/
namespace Go.Proofs.YtjofegjiakjjhaaDoor
open Go.RowKit Go.Lib Mf

theorem hexW_len {n : Int} (h : n < 18446744073709551616) : (hexW n.toNat).length ≤ 18 := by
  have := hexD_len 16 n.toNat (by omega) (by omega)
  unfold hexW
  simp only [List.length_cons]; omega
def stW : Bool → List Bs
  | true => [[115, 116, 111, 114, 101]]
  | false => []
/-- The line so far: the words W. -/
def CtD (w : World) (b : Nat) (cs : Array Value) (h0 : Bs) (W : List Bs) (N : Nat) (v : Value) (wr : World) : Prop := v = bv (join (h0 :: W) [32]) ∧ (join (h0 :: W) [32]).length ≤ N ∧ Blk wr b 47 cs ∧ Below w.heap.size w wr
def CtE (w : World) (b : Nat) (cs : Array Value) (fb : Nat) (fc : Array Value) (h0 : Bs) (W : List Bs) (N : Nat) (v : Value) (wr : World) : Prop := CtD w b cs h0 W N v wr ∧ Blk wr fb 44 fc
def TlR (w : World) (b : Nat) (cs : Array Value) (h0 : Bs) (W : List Bs) (pg : List Int) (v5 v : Value) (wr : World) : Prop := ∃ i : Nat, v5 = .int .i64 i ∧ i ≤ pg.length ∧ CtD w b cs h0 (W ++ pgW (pg.take i)) (1000 + i * 20) v wr
theorem join_snoc_len (h0 : Bs) (W : List Bs) (x : Bs) : (join (h0 :: (W ++ [x])) [32]).length = (join (h0 :: W) [32]).length + 1 + x.length := by
  rw [join_snoc]; simp only [List.length_append, List.length_cons, List.length_nil]
theorem joinTail_app (sep : Bs) : ∀ (L M : List Bs), joinTail sep (L ++ M) = joinTail sep L ++ joinTail sep M
  | [], M => by rw [List.nil_append]; rfl
  | x :: L, M => by rw [List.cons_append, joinTail_cons, joinTail_cons, joinTail_app sep L M]; simp only [List.append_assoc]
theorem join_app (h0 : Bs) (L M : List Bs) : join (h0 :: (L ++ M)) [32] = join (h0 :: L) [32] ++ joinTail [32] M := by
  rw [join_cons, join_cons, joinTail_app, List.append_assoc]
theorem join_snoc' (h0 : Bs) (W : List Bs) (x : Bs) : join (h0 :: (W ++ [x])) [32] = (join (h0 :: W) [32] ++ [32]) ++ x := join_snoc h0 W x
theorem pgW_snoc {l : List Int} {i : Nat} {x : Int} (h : l[i]? = some x) : pgW (l.take (i + 1)) = pgW (l.take i) ++ [hexW x.toNat] := by
  obtain ⟨hl, rfl⟩ := List.getElem?_eq_some_iff.1 h
  unfold pgW
  rw [List.take_succ_eq_append_getElem hl, List.map_append, List.map_singleton]
set_option maxRecDepth 20000 in
set_option maxHeartbeats 8000000 in
theorem rtell (r : Rs) (hr : r.ok) (hp : r.pages.length ≤ 100000) (A : Option Addr) (cc : Nat) (w : World) (hP : Reads w w.heap.size 1 A r.pages.length (r.pages.map (Value.int .u64))) :
    Calls Tryd.prog 17 #[.agg (rsC r (.slice A r.pages.length cc))] w (NumIs w (TellS r)) := by
  obtain ⟨n, hn⟩ : ∃ n, r.pages.length = n := ⟨_, rfl⟩
  have HN := Lib.hid hn
  rw [hn] at hP hp ⊢
  have HP := Lib.hid hP
  have HRO := Lib.hid hr
  obtain ⟨cs, hcs⟩ : ∃ cs, rsC r (.slice A n cc) = cs := ⟨_, rfl⟩
  have HC := Lib.hid (show cs[0]? = some (.int .i64 r.code) ∧ cs[1]? = some (.int .u64 r.value) ∧ cs[2]? = some (.int .i64 r.stage) ∧ cs[7]? = some (.slice A n cc) from by subst hcs; exact ⟨rfl, rfl, rfl, rfl⟩)
  have HC2 := Lib.hid (show cs[3]? = some (.int .i64 r.fkind) ∧ cs[4]? = some (.int .i64 r.level) ∧ cs[5]? = some (.int .u64 r.faddr) ∧ cs[6]? = some (.bool r.store) from by subst hcs; exact ⟨rfl, rfl, rfl, rfl⟩)
  have HB := Lib.hid (show Blk (w.alloc (.cells cs 47)) w.heap.size 47 cs from Blk.new _ _ _)
  have HBE := Lib.hid ((Below.refl w.heap.size w).alloc (Nat.le_refl _) (.cells cs 47))
  have hal := HB.out
  rw [← hcs] at hal
  unfold rsC at hal hcs ⊢
  clear hn hP hr
  go_enter Tryd.func17, Tryd.ntmps17
  go_upto_region 1 with fail
  rw [hcs]
  clear hcs hal
  generalize w.alloc (.cells cs 47) = w0 at *
  have hv0 := (HB.out.cell 0).trans HC.out.1
  go_upto_if 8 with (fail)
  go_cut [3] (CtD w w.heap.size cs (thd r) (tl1 r) 40)
  case first =>
    by_cases hc : r.code = 0
    · have q : (r.code != 0) = false := by simpa using hc
      have HE := Lib.hid (show thd r = [111, 107] ∧ tl1 r = [] from by unfold thd tl1; rw [if_pos hc, if_pos hc]; exact ⟨rfl, rfl⟩)
      clear hc
      go_wp2
      go_meet
      unfold CtD
      rw [HE.out.1, HE.out.2]
      exact ⟨rfl, by decide, HB.out, HBE.out⟩
    · have q : (r.code != 0) = true := by simpa using hc
      have HE := Lib.hid (show thd r = [101, 114, 114, 111, 114] ∧ tl1 r = [itoa r.code] from by unfold thd tl1; rw [if_neg hc, if_neg hc]; exact ⟨rfl, rfl⟩)
      have hil := itoa_len _ HRO.out.code
      have l3 : ¬ 9223372036854775807 < 6 + (itoa r.code).length := by omega
      clear hc
      go_wp2_with fail
      refine (rnum r.code HRO.out.code.1 HRO.out.code.2 _).mono ?_; rintro e w1 ⟨rfl, hb⟩
      have HB2 := Lib.hid (HB.out.below hb HB.out.lt)
      have HBE2 := Lib.hid (HBE.out.trans (hb.mono HBE.out.size))
      clear hb hv0
      go_wp2
      go_meet
      unfold CtD
      rw [HE.out.1, HE.out.2]
      have e : join [[101, 114, 114, 111, 114], itoa r.code] [32] = [101, 114, 114, 111, 114, 32] ++ itoa r.code := by
        rw [join_cons, joinTail_cons]
        show [101, 114, 114, 111, 114] ++ ([32] ++ itoa r.code ++ []) = _
        simp
      rw [e]
      refine ⟨by unfold bv; rw [← bv_app], ?_, HB2.out, HBE2.out⟩
      simp only [List.length_append, List.length_cons, List.length_nil]
      omega
  case rest =>
    clear HB HBE hv0
    obtain ⟨rfl, hl, hB, hbe⟩ := hcut
    have HB := Lib.hid hB
    have HBE := Lib.hid hbe
    obtain ⟨t, ht⟩ : ∃ t, join (thd r :: tl1 r) [32] = t := ⟨_, rfl⟩
    have HT := Lib.hid ht
    rw [ht] at hl ⊢
    clear hB hbe ht
    have hv1 := (HB.out.cell 1).trans HC.out.2.1
    go_upto_if 15 with (fail)
    go_cut [3] (CtD w w.heap.size cs (thd r) (tl2 r) 60)
    case first =>
      by_cases hc : r.value = 0
      · have q : (r.value != 0) = false := by simpa using hc
        have HE := Lib.hid (show tl2 r = tl1 r from by unfold tl2; rw [if_pos hc, List.append_nil])
        clear hc
        go_wp2
        go_meet
        unfold CtD
        rw [HE.out, HT.out]
        exact ⟨rfl, by omega, HB.out, HBE.out⟩
      · have q : (r.value != 0) = true := by simpa using hc
        have HE := Lib.hid (show tl2 r = tl1 r ++ [hexW r.value.toNat] from by unfold tl2; rw [if_neg hc])
        have hil := hexW_len HRO.out.v1
        have l3 : ¬ 9223372036854775807 < t.length + 1 := by omega
        have l4 : ¬ 9223372036854775807 < t.length + 1 + (hexW r.value.toNat).length := by omega
        have HH := Lib.hid (fun w => (show Calls Tryd.prog 38 #[.int .u64 r.value] w (fun e w' => e = .returned (bv (hexW r.value.toNat)) ∧ w' = w) from by
          have := rhex r.value.toNat (by have := HRO.out.v0; have := HRO.out.v1; omega) w
          rw [Int.toNat_of_nonneg HRO.out.v0] at this
          exact this))
        clear hc
        go_wp2_with fail
        refine (HH.out _).mono ?_; rintro e _ ⟨rfl, rfl⟩
        clear hv1
        go_wp2
        go_meet
        unfold CtD
        rw [HE.out, join_snoc', HT.out]
        refine ⟨by unfold bv; rw [← bv_app, ← bv_app], ?_, HB.out, HBE.out⟩
        simp only [List.length_append, List.length_cons, List.length_nil]
        omega
    case rest =>
      clear HB HBE hv1 HT hl
      obtain ⟨rfl, hl, hB, hbe⟩ := hcut
      have HB := Lib.hid hB
      have HBE := Lib.hid hbe
      obtain ⟨t, ht⟩ : ∃ t, join (thd r :: tl2 r) [32] = t := ⟨_, rfl⟩
      have HT := Lib.hid ht
      rw [ht] at hl ⊢
      clear hB hbe ht
      have hv2 := (HB.out.cell 2).trans HC.out.2.2.1
      have hv3 := (HB.out.cell 3).trans HC2.out.1
      have hv4 := (HB.out.cell 4).trans HC2.out.2.1
      have hv5 := (HB.out.cell 5).trans HC2.out.2.2.1
      have hv6 := (HB.out.cell 6).trans HC2.out.2.2.2
      go_upto_if 26 with (fail)
      have HF := Lib.hid (show Blk (wc.alloc (.cells #[.int .i64 r.stage, .int .i64 r.fkind, .int .i64 r.level, .int .u64 r.faddr, .bool r.store] 44)) wc.heap.size 44 #[.int .i64 r.stage, .int .i64 r.fkind, .int .i64 r.level, .int .u64 r.faddr, .bool r.store] from Blk.new _ _ _)
      replace HB := Lib.hid (HB.out.alloc (.cells #[.int .i64 r.stage, .int .i64 r.fkind, .int .i64 r.level, .int .u64 r.faddr, .bool r.store] 44))
      replace HBE := Lib.hid (HBE.out.alloc HBE.out.size (.cells #[.int .i64 r.stage, .int .i64 r.fkind, .int .i64 r.level, .int .u64 r.faddr, .bool r.store] 44))
      clear hv2 hv3 hv4 hv5 hv6
      generalize wc.alloc (.cells #[.int .i64 r.stage, .int .i64 r.fkind, .int .i64 r.level, .int .u64 r.faddr, .bool r.store] 44) = w3 at *
      generalize wc.heap.size = fb at *
      go_cut [3] (CtD w w.heap.size cs (thd r) (tl4 r) 200)
      case first =>
        by_cases hc : r.stage = 0
        · have q : (r.stage != 0) = false := by simpa using hc
          have HE := Lib.hid (show tl4 r = tl2 r from by unfold tl4 tl3; rw [if_pos hc, if_neg (fun h => h.1 hc), List.append_nil, List.append_nil])
          clear hc
          go_wp2
          go_meet
          unfold CtD
          rw [HE.out, HT.out]
          exact ⟨rfl, by omega, HB.out, HBE.out⟩
        · have q : (r.stage != 0) = true := by simpa using hc
          have HE := Lib.hid (show tl3 r = tl2 r ++ [[102, 97, 117, 108, 116], itoa r.stage, itoa r.fkind, itoa r.level, hexW r.faddr.toNat] from by unfold tl3; rw [if_neg hc])
          have HE4 := Lib.hid (show tl4 r = tl3 r ++ stW r.store from by
            unfold tl4
            by_cases hs : r.store = true
            · rw [if_pos ⟨hc, hs⟩, hs]; rfl
            · rw [if_neg (fun h => hs h.2), show r.store = false from by simpa using hs]; rfl)
          have n1 := itoa_len _ HRO.out.stage
          have n2 := itoa_len _ HRO.out.fkind
          have n3 := itoa_len _ HRO.out.level
          have n4 := hexW_len HRO.out.a1
          have HJ := Lib.hid (show join (thd r :: tl3 r) [32] = (((((((t ++ [32, 102, 97, 117, 108, 116, 32]) ++ itoa r.stage) ++ [32]) ++ itoa r.fkind) ++ [32]) ++ itoa r.level) ++ [32]) ++ hexW r.faddr.toNat from by
            rw [HE.out, join_app, HT.out, joinTail_cons, joinTail_cons, joinTail_cons, joinTail_cons, joinTail_cons]
            show t ++ ([32] ++ _ ++ ([32] ++ _ ++ ([32] ++ _ ++ ([32] ++ _ ++ ([32] ++ _ ++ []))))) = _
            simp)
          have HH := Lib.hid (fun w => (show Calls Tryd.prog 38 #[.int .u64 r.faddr] w (fun e w' => e = .returned (bv (hexW r.faddr.toNat)) ∧ w' = w) from by
            have := rhex r.faddr.toNat (by have := HRO.out.a0; have := HRO.out.a1; omega) w
            rw [Int.toNat_of_nonneg HRO.out.a0] at this
            exact this))
          generalize hm1 : itoa r.stage = x1 at *
          generalize hm2 : itoa r.fkind = x2 at *
          generalize hm3 : itoa r.level = x3 at *
          generalize hm4 : hexW r.faddr.toNat = x4 at *
          have HM1 := Lib.hid hm1
          have HM2 := Lib.hid hm2
          have HM3 := Lib.hid hm3
          clear hc hm1 hm2 hm3 hm4
          have l1 : ¬ 9223372036854775807 < t.length + 7 := by omega
          have l2 : ¬ 9223372036854775807 < t.length + 7 + x1.length := by omega
          have l3 : ¬ 9223372036854775807 < t.length + 7 + x1.length + 1 := by omega
          have l4 : ¬ 9223372036854775807 < t.length + 7 + x1.length + 1 + x2.length := by omega
          have l5 : ¬ 9223372036854775807 < t.length + 7 + x1.length + 1 + x2.length + 1 := by omega
          have l6 : ¬ 9223372036854775807 < t.length + 7 + x1.length + 1 + x2.length + 1 + x3.length := by omega
          have l7 : ¬ 9223372036854775807 < t.length + 7 + x1.length + 1 + x2.length + 1 + x3.length + 1 := by omega
          have l8 : ¬ 9223372036854775807 < t.length + 7 + x1.length + 1 + x2.length + 1 + x3.length + 1 + x4.length := by omega
          go_upto_region 8 with fail
          go_cut [3] (CtE w w.heap.size cs fb #[.int .i64 r.stage, .int .i64 r.fkind, .int .i64 r.level, .int .u64 r.faddr, .bool r.store] (thd r) (tl3 r) 190)
          case first =>
            refine wp_region_held_drew (S := (fun w' => w'.cell? ⟨fb, 0, none⟩ = some (.int .i64 r.stage) ∧ w'.cell? ⟨fb, 1, none⟩ = some (.int .i64 r.fkind) ∧ w'.cell? ⟨fb, 2, none⟩ = some (.int .i64 r.level) ∧ w'.cell? ⟨fb, 3, none⟩ = some (.int .u64 r.faddr))) (by kernel_rfl) ?_ (fun hHeld => ?_)
            · exact ⟨(HF.out.cell 0).trans rfl, (HF.out.cell 1).trans rfl, (HF.out.cell 2).trans rfl, (HF.out.cell 3).trans rfl⟩
            replace HF := Lib.hid (show Blk w3.drew fb 44 _ from HF.out)
            replace HB := Lib.hid (show Blk w3.drew w.heap.size 47 cs from HB.out)
            replace HBE := Lib.hid (HBE.out.drew)
            generalize w3.drew = wv at *
            ((refine takeY 0 (v := ?_) rfl (by kernel_rfl) (by kernel_rfl) (by kernel_rfl) (fun _ _ _ h => h) (by rfl) (by assumption) ?_ ?_; rotate_left; · (intro w hSw; (try dsimp only at hSw); go_simp; (first | done | with_reducible rfl))))
            (try simp only [Act.put, List.setIfInBounds_toArray, List.set_cons_zero, List.set_cons_succ])
            ((refine takeY 1 (v := ?_) rfl (by kernel_rfl) (by kernel_rfl) (by kernel_rfl) (fun _ _ _ h => h) (by rfl) (by assumption) ?_ ?_; rotate_left; · (intro w hSw; (try dsimp only at hSw); go_simp; (first | done | with_reducible rfl))))
            (try simp only [Act.put, List.setIfInBounds_toArray, List.set_cons_zero, List.set_cons_succ])
            ((refine takeY 2 (v := ?_) rfl (by kernel_rfl) (by kernel_rfl) (by kernel_rfl) (fun _ _ _ h => h) (by rfl) (by assumption) ?_ ?_; rotate_left; · (intro w hSw; (try dsimp only at hSw); go_simp; (first | done | with_reducible rfl))))
            (try simp only [Act.put, List.setIfInBounds_toArray, List.set_cons_zero, List.set_cons_succ])
            ((refine takeY 3 (v := ?_) rfl (by kernel_rfl) (by kernel_rfl) (by kernel_rfl) (fun _ _ _ h => h) (by rfl) (by assumption) ?_ ?_; rotate_left; · (intro w hSw; (try dsimp only at hSw); go_simp; (first | done | with_reducible rfl))))
            (try simp only [Act.put, List.setIfInBounds_toArray, List.set_cons_zero, List.set_cons_succ])
            ((refine takeY 7 (v := ?_) rfl (by kernel_rfl) (by kernel_rfl) (by kernel_rfl) (fun _ _ _ h => h) (by rfl) (by assumption) ?_ ?_; rotate_left; · (intro w hSw; (try dsimp only at hSw); go_simp; (first | done | with_reducible rfl))))
            (try simp only [Act.put, List.setIfInBounds_toArray, List.set_cons_zero, List.set_cons_succ])
            ((refine takeY 8 (v := ?_) rfl (by kernel_rfl) (by kernel_rfl) (by kernel_rfl) (fun _ _ _ h => h) (by rfl) (by assumption) ?_ ?_; rotate_left; · (intro w hSw; (try dsimp only at hSw); go_simp; (first | done | with_reducible rfl))))
            (try simp only [Act.put, List.setIfInBounds_toArray, List.set_cons_zero, List.set_cons_succ])
            ((refine takeY 12 (v := ?_) rfl (by kernel_rfl) (by kernel_rfl) (by kernel_rfl) (fun _ _ _ h => h) (by rfl) (by assumption) ?_ ?_; rotate_left; · (intro w hSw; (try dsimp only at hSw); go_simp; (first | done | with_reducible rfl))))
            (try simp only [Act.put, List.setIfInBounds_toArray, List.set_cons_zero, List.set_cons_succ])
            ((refine takeY 13 (v := ?_) rfl (by kernel_rfl) (by kernel_rfl) (by kernel_rfl) (fun _ _ _ h => h) (by rfl) (by assumption) ?_ ?_; rotate_left; · (intro w hSw; (try dsimp only at hSw); go_simp; (first | done | with_reducible rfl))))
            (try simp only [Act.put, List.setIfInBounds_toArray, List.set_cons_zero, List.set_cons_succ])
            ((refine takeY 17 (v := ?_) rfl (by kernel_rfl) (by kernel_rfl) (by kernel_rfl) (fun _ _ _ h => h) (by rfl) (by assumption) ?_ ?_; rotate_left; · (intro w hSw; (try dsimp only at hSw); go_simp; (first | done | with_reducible rfl))))
            (try simp only [Act.put, List.setIfInBounds_toArray, List.set_cons_zero, List.set_cons_succ])
            ((refine takeY 18 (v := ?_) rfl (by kernel_rfl) (by kernel_rfl) (by kernel_rfl) (fun _ _ _ h => h) (by rfl) (by assumption) ?_ ?_; rotate_left; · (intro w hSw; (try dsimp only at hSw); go_simp; (first | done | with_reducible rfl))))
            (try simp only [Act.put, List.setIfInBounds_toArray, List.set_cons_zero, List.set_cons_succ])
            refine stepH 4 rfl (by kernel_rfl) (by rfl) (fun K hK => ?_)
            go_simp
            refine (rnum r.stage HRO.out.stage.1 HRO.out.stage.2 _).mono ?_; rintro e wn ⟨rfl, hb⟩
            rw [HM1.out]
            replace HB := Lib.hid (HB.out.below hb HB.out.lt)
            replace HBE := Lib.hid (HBE.out.trans (hb.mono HBE.out.size))
            replace HF := Lib.hid (HF.out.below hb HF.out.lt)
            clear hb
            (refine hK.out _ _ ?_ (fun hHeld => ?_))
            · exact ⟨(HF.out.cell 0).trans rfl, (HF.out.cell 1).trans rfl, (HF.out.cell 2).trans rfl, (HF.out.cell 3).trans rfl⟩
            clear hK K
            ((refine takeY 5 (v := ?_) rfl (by kernel_rfl) (by kernel_rfl) (by kernel_rfl) (fun _ _ _ h => h) (by rfl) (by assumption) ?_ ?_; rotate_left; · (intro w hSw; (try dsimp only at hSw); go_simp; (first | done | with_reducible rfl))))
            (try simp only [Act.put, List.setIfInBounds_toArray, List.set_cons_zero, List.set_cons_succ])
            ((refine takeY 6 (v := ?_) rfl (by kernel_rfl) (by kernel_rfl) (by kernel_rfl) (fun _ _ _ h => h) (by rfl) (by assumption) ?_ ?_; rotate_left; · (intro w hSw; (try dsimp only at hSw); go_simp; (first | done | with_reducible rfl))))
            (try simp only [Act.put, List.setIfInBounds_toArray, List.set_cons_zero, List.set_cons_succ])
            refine stepH 9 rfl (by kernel_rfl) (by rfl) (fun K hK => ?_)
            go_simp
            refine (rnum r.fkind HRO.out.fkind.1 HRO.out.fkind.2 _).mono ?_; rintro e wn ⟨rfl, hb⟩
            rw [HM2.out]
            replace HB := Lib.hid (HB.out.below hb HB.out.lt)
            replace HBE := Lib.hid (HBE.out.trans (hb.mono HBE.out.size))
            replace HF := Lib.hid (HF.out.below hb HF.out.lt)
            clear hb
            (refine hK.out _ _ ?_ (fun hHeld => ?_))
            · exact ⟨(HF.out.cell 0).trans rfl, (HF.out.cell 1).trans rfl, (HF.out.cell 2).trans rfl, (HF.out.cell 3).trans rfl⟩
            clear hK K
            ((refine takeY 10 (v := ?_) rfl (by kernel_rfl) (by kernel_rfl) (by kernel_rfl) (fun _ _ _ h => h) (by rfl) (by assumption) ?_ ?_; rotate_left; · (intro w hSw; (try dsimp only at hSw); go_simp; (first | done | with_reducible rfl))))
            (try simp only [Act.put, List.setIfInBounds_toArray, List.set_cons_zero, List.set_cons_succ])
            ((refine takeY 11 (v := ?_) rfl (by kernel_rfl) (by kernel_rfl) (by kernel_rfl) (fun _ _ _ h => h) (by rfl) (by assumption) ?_ ?_; rotate_left; · (intro w hSw; (try dsimp only at hSw); go_simp; (first | done | with_reducible rfl))))
            (try simp only [Act.put, List.setIfInBounds_toArray, List.set_cons_zero, List.set_cons_succ])
            refine stepH 14 rfl (by kernel_rfl) (by rfl) (fun K hK => ?_)
            go_simp
            refine (rnum r.level HRO.out.level.1 HRO.out.level.2 _).mono ?_; rintro e wn ⟨rfl, hb⟩
            rw [HM3.out]
            replace HB := Lib.hid (HB.out.below hb HB.out.lt)
            replace HBE := Lib.hid (HBE.out.trans (hb.mono HBE.out.size))
            replace HF := Lib.hid (HF.out.below hb HF.out.lt)
            clear hb
            (refine hK.out _ _ ?_ (fun hHeld => ?_))
            · exact ⟨(HF.out.cell 0).trans rfl, (HF.out.cell 1).trans rfl, (HF.out.cell 2).trans rfl, (HF.out.cell 3).trans rfl⟩
            clear hK K
            ((refine takeY 15 (v := ?_) rfl (by kernel_rfl) (by kernel_rfl) (by kernel_rfl) (fun _ _ _ h => h) (by rfl) (by assumption) ?_ ?_; rotate_left; · (intro w hSw; (try dsimp only at hSw); go_simp; (first | done | with_reducible rfl))))
            (try simp only [Act.put, List.setIfInBounds_toArray, List.set_cons_zero, List.set_cons_succ])
            ((refine takeY 16 (v := ?_) rfl (by kernel_rfl) (by kernel_rfl) (by kernel_rfl) (fun _ _ _ h => h) (by rfl) (by assumption) ?_ ?_; rotate_left; · (intro w hSw; (try dsimp only at hSw); go_simp; (first | done | with_reducible rfl))))
            (try simp only [Act.put, List.setIfInBounds_toArray, List.set_cons_zero, List.set_cons_succ])
            refine stepH 19 rfl (by kernel_rfl) (by rfl) (fun K hK => ?_)
            go_simp
            refine (HH.out _).mono ?_; rintro e _ ⟨rfl, rfl⟩
            (refine hK.out _ _ hHeld (fun hHeld => ?_))
            clear hK K
            ((refine takeY 20 (v := ?_) rfl (by kernel_rfl) (by kernel_rfl) (by kernel_rfl) (fun _ _ _ h => h) (by rfl) (by assumption) ?_ ?_; rotate_left; · (intro w hSw; (try dsimp only at hSw); go_simp; (first | done | with_reducible rfl))))
            (try simp only [Act.put, List.setIfInBounds_toArray, List.set_cons_zero, List.set_cons_succ])
            ((refine takeY 21 (v := ?_) rfl (by kernel_rfl) (by kernel_rfl) (by kernel_rfl) (fun _ _ _ h => h) (by rfl) (by assumption) ?_ ?_; rotate_left; · (intro w hSw; (try dsimp only at hSw); go_simp; (first | done | with_reducible rfl))))
            (try simp only [Act.put, List.setIfInBounds_toArray, List.set_cons_zero, List.set_cons_succ])
            refine wpAnyH_done (by kernel_rfl) ?_ _
            clear hHeld
            go_wp2
            go_meet
            unfold CtE CtD
            rw [HJ.out]
            refine ⟨⟨by unfold bv; rw [← bv_app, ← bv_app, ← bv_app, ← bv_app, ← bv_app, ← bv_app, ← bv_app, ← bv_app], ?_, HB.out, HBE.out⟩, HF.out⟩
            rw [HM1.out, HM2.out, HM3.out] at *
            simp only [List.length_append, List.length_cons, List.length_nil]
            omega
          case rest =>
            clear HB HBE HF HT HJ l1 l2 l3 l4 l5 l6 l7 l8 n1 n2 n3 n4
            obtain ⟨⟨rfl, hl, hB, hbe⟩, hF⟩ := hcut
            have HB := Lib.hid hB
            have HBE := Lib.hid hbe
            obtain ⟨t, ht⟩ : ∃ t, join (thd r :: tl3 r) [32] = t := ⟨_, rfl⟩
            have HT := Lib.hid ht
            rw [ht] at hl ⊢
            have hv := (hF.cell 4).trans rfl
            have l3 : ¬ 9223372036854775807 < t.length + 6 := by omega
            clear hB hbe ht hF
            obtain ⟨sb, hsb⟩ : ∃ b, r.store = b := ⟨_, rfl⟩
            rw [hsb] at hv
            have HE := Lib.hid (show tl4 r = tl3 r ++ stW sb from by rw [← hsb]; exact HE4.out)
            clear hsb HE4
            cases sb with
            | true =>
              go_wp2
              go_meet
              unfold CtD
              rw [HE.out, show stW true = [[115, 116, 111, 114, 101]] from rfl, join_snoc', HT.out]
              refine ⟨by unfold bv; rw [List.append_assoc, ← bv_app]; rfl, ?_, HB.out, HBE.out⟩
              simp only [List.length_append, List.length_cons, List.length_nil]
              omega
            | false =>
              go_wp2
              go_meet
              unfold CtD
              rw [HE.out, show stW false = [] from rfl, List.append_nil, HT.out]
              exact ⟨rfl, by omega, HB.out, HBE.out⟩
      case rest =>
        clear HB HBE HF HT hl
        obtain ⟨rfl, hl, hB, hbe⟩ := hcut
        have HB := Lib.hid hB
        have HBE := Lib.hid hbe
        obtain ⟨t, ht⟩ : ∃ t, join (thd r :: tl4 r) [32] = t := ⟨_, rfl⟩
        have HT := Lib.hid ht
        rw [ht] at hl ⊢
        clear hB hbe ht
        have hv7 := (HB.out.cell 7).trans HC.out.2.2.2
        go_upto_if 55 with (fail)
        go_cut [3] (CtD w w.heap.size cs (thd r) (tl5 r) 250)
        case first =>
          by_cases hc : 0 < n
          · have q : decide ((n : Int) > 0) = true := decide_eq_true (by omega)
            have q' : decide (0 < n) = true := decide_eq_true hc
            have HE := Lib.hid (show tl5 r = tl4 r ++ [[112, 97, 103, 101, 115]] from by unfold tl5; rw [if_neg]; intro e; have := HN.out; rw [e] at this; simp at this; omega)
            have l3 : ¬ 9223372036854775807 < t.length + 6 := by omega
            go_wp2
            go_meet
            unfold CtD
            rw [HE.out, join_snoc', HT.out]
            refine ⟨by unfold bv; rw [List.append_assoc, ← bv_app]; rfl, ?_, HB.out, HBE.out⟩
            simp only [List.length_append, List.length_cons, List.length_nil]
            omega
          · have q : decide ((n : Int) > 0) = false := decide_eq_false (by omega)
            have q' : decide (0 < n) = false := decide_eq_false hc
            have HE := Lib.hid (show tl5 r = tl4 r from by unfold tl5; rw [if_pos (List.eq_nil_of_length_eq_zero (by have := HN.out; omega)), List.append_nil])
            go_wp2
            go_meet
            unfold CtD
            rw [HE.out, HT.out]
            exact ⟨rfl, by omega, HB.out, HBE.out⟩
        case rest =>
          clear HB HBE HT hl hv7
          obtain ⟨rfl, hl, hB, hbe⟩ := hcut
          have HB := Lib.hid hB
          have HBE := Lib.hid hbe
          have HL := Lib.hid hl
          clear hB hbe hl
          go_wp2_with fail
          go_loopw [5, 3] (TlR w w.heap.size cs (thd r) (tl5 r) r.pages) (fun v _ _ => n - cntZ v)
          case atStart => exact ⟨0, rfl, Nat.zero_le _, by simp only [pgW, List.take_zero, List.map_nil, List.append_nil]; exact ⟨rfl, by have := HL.out; omega, HB.out, HBE.out⟩⟩
          case round =>
            clear HB HBE HL
            obtain ⟨i, rfl, hi, rfl, hl, hB, hbe⟩ := hrel
            have HB := Lib.hid hB
            have HBE := Lib.hid hbe
            obtain ⟨t, ht⟩ : ∃ t, join (thd r :: (tl5 r ++ pgW (r.pages.take i))) [32] = t := ⟨_, rfl⟩
            have HT := Lib.hid ht
            rw [ht] at hl ⊢
            rw [HN.out] at hi
            clear hB hbe ht
            have hv7 := (HB.out.cell 7).trans HC.out.2.2.2
            by_cases hin : i < n
            · have g1 : decide ((i : Int) < (n : Int)) = true := by simp; exact hin
              have g1' : decide (i < n) = true := by simp; exact hin
              obtain ⟨ad, u, hA, _, hu, hc⟩ := (HP.out.below HBE.out).at_ hin
              obtain ⟨x, hx⟩ : ∃ x, r.pages[i]? = some x := ⟨_, List.getElem?_eq_getElem (by have := HN.out; omega)⟩
              have HX := Lib.hid hx
              have HXB := Lib.hid (HRO.out.pg x (List.mem_of_getElem? hx))
              rw [List.getElem?_map, hx] at hu
              obtain rfl : Value.int .u64 x = u := by simpa using hu
              have HH := Lib.hid (fun w => (show Calls Tryd.prog 38 #[.int .u64 x] w (fun e w' => e = .returned (bv (hexW x.toNat)) ∧ w' = w) from by
                have := rhex x.toNat (by have := HXB.out; omega) w
                rw [Int.toNat_of_nonneg HXB.out.1] at this
                exact this))
              have hil := hexW_len HXB.out.2
              have l3 : ¬ 9223372036854775807 < t.length + 1 := by omega
              have l4 : ¬ 9223372036854775807 < t.length + 1 + (hexW x.toNat).length := by omega
              subst hA
              clear hu hx
              go_wp2_with fail
              refine (HH.out _).mono ?_; rintro e _ ⟨rfl, rfl⟩
              clear hv7 hc
              go_wp2
              refine ⟨⟨i + 1, by go_num, by rw [HN.out]; omega, ?_, ?_, HB.out, HBE.out⟩, cntZ_lt hin⟩
              · rw [pgW_snoc HX.out, ← List.append_assoc, join_snoc', HT.out]
                unfold bv
                rw [← bv_app, ← bv_app]
              · rw [pgW_snoc HX.out, ← List.append_assoc, join_snoc', HT.out]
                simp only [List.length_append, List.length_cons, List.length_nil]
                omega
            · obtain rfl : i = n := by omega
              have g1 : decide ((i : Int) < (i : Int)) = false := by simp
              go_wp2
              go_ret
              refine ⟨?_, HBE.out⟩
              rw [← HT.out, List.take_of_length_le (by have := HN.out; omega)]
              rfl
end Go.Proofs.YtjofegjiakjjhaaDoor
/- Script, the program: Tell. -/
namespace Go.Proofs.YtjofegjiakjjhaaDoor
open Go.RowKit Go.Lib Mf

theorem Reads.of_row {w : World} {g : Nat} {t : TypeId} {cs : Array Value} (h : Blk w g t cs) : Reads w w.heap.size 1 (some ⟨g, 0, none⟩) cs.size cs.toList := by
  refine ⟨by simp, fun _ => ⟨_, rfl, h.lt, fun j u hu => ?_⟩⟩
  have e : (⟨g, 0, none⟩ : Addr).add j = ⟨g, j, none⟩ := by unfold Addr.add; split <;> simp_all
  rw [e, h.cell, ← hu]
  simp
/-- The words so far. -/
structure CtP (w : World) (b : Nat) (cs : Array Value) (h0 : Bs) (W : List Bs) (v : Value) (wr : World) : Prop where
  own : wr.ownsRow (b + 1) 9 1 v (h0 :: W).length ((h0 :: W).map bv)
  len : W.length ≤ 2000
  blk : Blk wr b 47 cs
  be : Below w.heap.size w wr
  env : Env wr
theorem CtP.below {w : World} {b : Nat} {cs : Array Value} {h0 : Bs} {W : List Bs} {v : Value} {wr w' : World} (h : CtP w b cs h0 W v wr) (hb : Below wr.heap.size wr w') : CtP w b cs h0 W v w' :=
  ⟨own_below h.own hb, h.len, h.blk.below hb h.blk.lt, h.be.trans (hb.mono h.be.size), h.env.below hb⟩
/-- Words appended. -/
theorem CtP.app {w : World} {cs : Array Value} {h0 : Bs} {W : List Bs} {v : Value} {wr w' : World} (hs8 : 8 ≤ w.heap.size) (h : CtP w w.heap.size cs h0 W v wr) {v' : Value} {M : List Bs} (ho : w'.ownsRow (w.heap.size + 1) 9 1 v' ((h0 :: W).length + M.length) ((h0 :: W).map bv ++ M.map bv)) (hg : wr.grownBy w' v.ownBlock) (hl : W.length + M.length ≤ 2000) : CtP w w.heap.size cs h0 (W ++ M) v' w' := by
  have hne : ∀ g, some g = v.ownBlock → w.heap.size + 1 ≤ g := fun g e => (h.own.lt g e.symm).1
  have ho9 : Only (fun g => w.heap.size + 1 ≤ g) wr w' := Only.grown (Only.refl _ _) hg (fun g e => .inl (hne g e.symm))
  refine ⟨?_, by simp; omega, h.blk.only ho9 (by omega), h.be.trans (ho9.to_below (fun k hk => by omega) h.be.size), h.env.only ho9 (fun k hk e => by omega)⟩
  have e1 : (h0 :: (W ++ M)).map bv = (h0 :: W).map bv ++ M.map bv := by simp
  rw [e1, show (h0 :: (W ++ M)).length = (h0 :: W).length + M.length from by simp; omega]
  exact ho
def TlP (w : World) (cs : Array Value) (h0 : Bs) (W : List Bs) (pg : List Int) (v59 v : Value) (wr : World) : Prop := ∃ i : Nat, v59 = .int .i64 i ∧ i ≤ pg.length ∧ CtP w w.heap.size cs h0 (W ++ pgW (pg.take i)) v wr
def CtF (w : World) (cs : Array Value) (fb : Nat) (fc : Array Value) (h0 : Bs) (W : List Bs) (v : Value) (wr : World) : Prop := CtP w w.heap.size cs h0 W v wr ∧ Blk wr fb 44 fc
theorem join_bound (K : Nat) : ∀ (W : List Bs) (h0 : Bs), (∀ x ∈ h0 :: W, x.length ≤ K) → (join (h0 :: W) [32]).length ≤ (W.length + 1) * (K + 1)
  | [], h0, h => by
    rw [join_one]
    have := h h0 List.mem_cons_self
    simp; omega
  | x :: W, h0, h => by
    have h1 := h h0 List.mem_cons_self
    have h2 := join_bound K W x (fun y hy => h y (List.mem_cons_of_mem _ hy))
    rw [join_cons, joinTail_cons]
    rw [join_cons] at h2
    simp only [List.length_append, List.length_cons, List.length_nil] at h2 ⊢
    rw [Nat.succ_mul (W.length + 1)]
    omega
theorem tell_words {r : Rs} (hr : r.ok) : ∀ x ∈ thd r :: (tl5 r ++ pgW r.pages), x.length ≤ 20 := by
  have e1 := itoa_len _ hr.code
  have e2 := hexW_len hr.v1
  have e3 := itoa_len _ hr.stage
  have e4 := itoa_len _ hr.fkind
  have e5 := itoa_len _ hr.level
  have e6 := hexW_len hr.a1
  have h1 : ∀ x ∈ tl1 r, x.length ≤ 20 := by
    intro x hx; unfold tl1 at hx; split at hx
    · cases hx
    · rw [List.mem_singleton] at hx; subst hx; exact e1
  have h2 : ∀ x ∈ tl2 r, x.length ≤ 20 := by
    intro x hx; unfold tl2 at hx; rw [List.mem_append] at hx
    rcases hx with hx | hx
    · exact h1 x hx
    · split at hx
      · cases hx
      · rw [List.mem_singleton] at hx; subst hx; omega
  have h3 : ∀ x ∈ tl3 r, x.length ≤ 20 := by
    intro x hx; unfold tl3 at hx; rw [List.mem_append] at hx
    rcases hx with hx | hx
    · exact h2 x hx
    · split at hx
      · cases hx
      · simp only [List.mem_cons, List.not_mem_nil, or_false] at hx
        rcases hx with rfl | rfl | rfl | rfl | rfl
        · simp
        · exact e3
        · exact e4
        · exact e5
        · omega
  have h4 : ∀ x ∈ tl4 r, x.length ≤ 20 := by
    intro x hx; unfold tl4 at hx; rw [List.mem_append] at hx
    rcases hx with hx | hx
    · exact h3 x hx
    · split at hx
      · rw [List.mem_singleton] at hx; subst hx; simp
      · cases hx
  have h5 : ∀ x ∈ tl5 r, x.length ≤ 20 := by
    intro x hx; unfold tl5 at hx; rw [List.mem_append] at hx
    rcases hx with hx | hx
    · exact h4 x hx
    · split at hx
      · cases hx
      · rw [List.mem_singleton] at hx; subst hx; simp
  intro x hx
  rw [List.mem_cons, List.mem_append] at hx
  rcases hx with rfl | hx | hx
  · unfold thd; split <;> simp
  · exact h5 x hx
  · obtain ⟨y, hy, rfl⟩ := List.mem_map.1 hx
    have := hexW_len (hr.pg y hy).2
    omega
theorem tl_len (r : Rs) : (tl1 r).length ≤ 1 ∧ (tl2 r).length ≤ 2 ∧ (tl3 r).length ≤ 7 ∧ (tl4 r).length ≤ 8 ∧ (tl5 r).length ≤ 9 := by
  have h1 : (tl1 r).length ≤ 1 := by unfold tl1; split <;> simp
  have h2 : (tl2 r).length ≤ 2 := by unfold tl2; rw [List.length_append]; split <;> simp <;> omega
  have h3 : (tl3 r).length ≤ 7 := by unfold tl3; rw [List.length_append]; split <;> simp <;> omega
  have h4 : (tl4 r).length ≤ 8 := by unfold tl4; rw [List.length_append]; split <;> simp <;> omega
  have h5 : (tl5 r).length ≤ 9 := by unfold tl5; rw [List.length_append]; split <;> simp <;> omega
  exact ⟨h1, h2, h3, h4, h5⟩
set_option maxRecDepth 20000 in
set_option maxHeartbeats 8000000 in
theorem ltell (r : Rs) (hr : r.ok) (hp : r.pages.length ≤ 1000) (A : Option Addr) (cc : Nat) {w : World} (he : Env w) (hP : Reads w w.heap.size 1 A r.pages.length (r.pages.map (Value.int .u64))) :
    Calls Tryd.prog 16 #[.agg (rsC r (.slice A r.pages.length cc))] w (NumIs w (TellS r)) := by
  obtain ⟨i0, hi0, hz0', hz1, hz2⟩ := info_parts infoS
  obtain ⟨n, hn⟩ : ∃ n, r.pages.length = n := ⟨_, rfl⟩
  have HN := Lib.hid hn
  have HS8 := Lib.hid he.size
  have HTL := Lib.hid (tl_len r)
  rw [hn] at hP hp ⊢
  have HP := Lib.hid hP
  have HRO := Lib.hid hr
  obtain ⟨cs, hcs⟩ : ∃ cs, rsC r (.slice A n cc) = cs := ⟨_, rfl⟩
  have HC := Lib.hid (show cs[0]? = some (.int .i64 r.code) ∧ cs[1]? = some (.int .u64 r.value) ∧ cs[2]? = some (.int .i64 r.stage) ∧ cs[7]? = some (.slice A n cc) from by subst hcs; exact ⟨rfl, rfl, rfl, rfl⟩)
  have HC2 := Lib.hid (show cs[3]? = some (.int .i64 r.fkind) ∧ cs[4]? = some (.int .i64 r.level) ∧ cs[5]? = some (.int .u64 r.faddr) ∧ cs[6]? = some (.bool r.store) from by subst hcs; exact ⟨rfl, rfl, rfl, rfl⟩)
  have HB := Lib.hid (show Blk (w.alloc (.cells cs 47)) w.heap.size 47 cs from Blk.new _ _ _)
  have HBE := Lib.hid ((Below.refl w.heap.size w).alloc (Nat.le_refl _) (.cells cs 47))
  have hal := HB.out
  rw [← hcs] at hal
  have HE := Lib.hid (he.below HBE.out)
  have hsz : (w.alloc (.cells cs 47)).heap.size = w.heap.size + 1 := by simp
  have HZ := Lib.hid hsz
  unfold rsC at hal hcs ⊢
  clear hn hP hr hsz he
  go_enter Tryd.func16, Tryd.ntmps16
  go_upto_region 1 with fail
  rw [hcs]
  clear hcs hal
  generalize w.alloc (.cells cs 47) = w0 at *
  go_upto_region 2 with fail
  have HQ := Lib.hid (show CtP w w.heap.size cs [111, 107] [] (.slice (some ⟨w0.heap.size, 0, none⟩) 1 1) (w0.alloc (.cells #[bv [111, 107]] 9)) from by
    have hbx := (Below.refl w0.heap.size w0).alloc (Nat.le_refl _) (.cells #[bv [111, 107]] 9)
    exact ⟨⟨rfl, .inr ⟨w0.heap.size, 1, #[bv [111, 107]], rfl, by have := HZ.out; omega, heap_alloc_new w0 _, Nat.le_refl _, by unfold maxLen; omega, rfl, rfl⟩⟩, by simp, HB.out.alloc _, HBE.out.trans (hbx.mono HBE.out.size), HE.out.below hbx⟩)
  clear HB HBE HE HZ
  generalize w0.alloc (.cells #[bv [111, 107]] 9) = w1 at *
  generalize w0.heap.size = g0 at *
  have hv0 := (HQ.out.blk.cell 0).trans HC.out.1
  go_upto_if 10 with (fail)
  go_cut [3] (CtP w w.heap.size cs (thd r) (tl1 r))
  case first =>
    by_cases hc : r.code = 0
    · have q : (r.code != 0) = false := by simpa using hc
      have HE := Lib.hid (show thd r = [111, 107] ∧ tl1 r = [] from by unfold thd tl1; rw [if_pos hc, if_pos hc]; exact ⟨rfl, rfl⟩)
      clear hc
      go_wp2
      go_meet
      rw [HE.out.1, HE.out.2]
      exact HQ.out
    · have q : (r.code != 0) = true := by simpa using hc
      have HE := Lib.hid (show thd r = [101, 114, 114, 111, 114] ∧ tl1 r = [itoa r.code] from by unfold thd tl1; rw [if_neg hc, if_neg hc]; exact ⟨rfl, rfl⟩)
      clear hc
      go_wp2_with fail
      refine (litoa r.code HRO.out.code HQ.out.env).mono ?_; rintro e w2 ⟨rfl, hb⟩
      replace HQ := Lib.hid (HQ.out.below hb)
      clear hb hv0
      go_wp2
      go_meet
      rw [HE.out.1, HE.out.2]
      have hbx := (Below.refl w2.heap.size w2).alloc (Nat.le_refl _) (.cells #[bv [101, 114, 114, 111, 114], bv (itoa r.code)] 9)
      exact ⟨⟨rfl, .inr ⟨w2.heap.size, 2, #[bv [101, 114, 114, 111, 114], bv (itoa r.code)], rfl, HQ.out.blk.lt, heap_alloc_new w2 _, Nat.le_refl _, by unfold maxLen; omega, rfl, rfl⟩⟩, by simp, HQ.out.blk.alloc _, HQ.out.be.trans (hbx.mono HQ.out.be.size), HQ.out.env.below hbx⟩
  case rest =>
    clear HQ hv0
    have HQ := Lib.hid hcut
    clear hcut
    have hv1 := (HQ.out.blk.cell 1).trans HC.out.2.1
    go_upto_if 17 with (fail)
    go_cut [3] (CtP w w.heap.size cs (thd r) (tl2 r))
    case first =>
      by_cases hc : r.value = 0
      · have q : (r.value != 0) = false := by simpa using hc
        have HE := Lib.hid (show tl2 r = tl1 r from by unfold tl2; rw [if_pos hc, List.append_nil])
        clear hc
        go_wp2
        go_meet
        rw [HE.out]
        exact HQ.out
      · have q : (r.value != 0) = true := by simpa using hc
        have HE := Lib.hid (show tl2 r = tl1 r ++ [hexW r.value.toNat] from by unfold tl2; rw [if_neg hc])
        have HH := Lib.hid (fun (w : World) (he : Env w) => (show Calls Tryd.prog 36 #[.int .u64 r.value] w (NumIs w (hexW r.value.toNat)) from by
          have := lhexa r.value.toNat (by have := HRO.out.v0; have := HRO.out.v1; omega) he
          rw [Int.toNat_of_nonneg HRO.out.v0] at this
          exact this))
        clear hc
        go_wp2_with fail
        refine (HH.out _ HQ.out.env).mono ?_; rintro e w2 ⟨rfl, hb⟩
        replace HQ := Lib.hid (HQ.out.below hb)
        clear hb hv1
        go_wp2_with (first
          | (at_builtin; refine wpList_append_any _ rfl (.tmp 18) (.tmp 22) _ rfl (w.heap.size + 1) 9 i0 _ 1 16 Tryd.underlying36 hi0 hz0' hz1 hz2 rfl (by omega) _ _ _ rfl (HQ.out.own.alloc _) _ (some ⟨(w2).heap.size, 0, none⟩) 1 1 [bv (hexW r.value.toNat)] rfl (reads_one1 w2 _ _) (by simp; rfl) (by have := HQ.out.len; unfold maxLen; simp only [List.length_cons]; omega) (by have := HQ.out.len; simp only [List.length_cons]; omega) (by have := HQ.out.blk.lt; simp; omega) ?_; intro v2 w4 hown2 hg4 hat4)
          | fail)
        have HQ2 := Lib.hid (CtP.app HS8.out (HQ.out.below ((Below.refl _ _).alloc (Nat.le_refl _) _)) (M := [(hexW r.value.toNat)]) hown2 hg4 (by have := HTL.out; skip; simp only [List.length_cons, List.length_nil]; omega))
        clear hown2 hg4 hat4
        go_wp2
        go_meet
        rw [HE.out]
        exact HQ2.out
    case rest =>
      clear HQ hv1
      have HQ := Lib.hid hcut
      clear hcut
      have hv2 := (HQ.out.blk.cell 2).trans HC.out.2.2.1
      have hv3 := (HQ.out.blk.cell 3).trans HC2.out.1
      have hv4 := (HQ.out.blk.cell 4).trans HC2.out.2.1
      have hv5 := (HQ.out.blk.cell 5).trans HC2.out.2.2.1
      have hv6 := (HQ.out.blk.cell 6).trans HC2.out.2.2.2
      go_upto_if 28 with (fail)
      have HF := Lib.hid (show Blk (wc.alloc (.cells #[.int .i64 r.stage, .int .i64 r.fkind, .int .i64 r.level, .int .u64 r.faddr, .bool r.store] 44)) wc.heap.size 44 #[.int .i64 r.stage, .int .i64 r.fkind, .int .i64 r.level, .int .u64 r.faddr, .bool r.store] from Blk.new _ _ _)
      have HNE := Lib.hid (fun g e => (HQ.out.own.lt g e).2)
      replace HQ := Lib.hid (HQ.out.below ((Below.refl _ _).alloc (Nat.le_refl _) (.cells #[.int .i64 r.stage, .int .i64 r.fkind, .int .i64 r.level, .int .u64 r.faddr, .bool r.store] 44)))
      clear hv2 hv3 hv4 hv5 hv6
      generalize wc.alloc (.cells #[.int .i64 r.stage, .int .i64 r.fkind, .int .i64 r.level, .int .u64 r.faddr, .bool r.store] 44) = w3 at *
      generalize wc.heap.size = fb at *
      go_cut [3] (CtP w w.heap.size cs (thd r) (tl4 r))
      case first =>
        by_cases hc : r.stage = 0
        · have q : (r.stage != 0) = false := by simpa using hc
          have HE := Lib.hid (show tl4 r = tl2 r from by unfold tl4 tl3; rw [if_pos hc, if_neg (fun h => h.1 hc), List.append_nil, List.append_nil])
          clear hc
          go_wp2
          go_meet
          rw [HE.out]
          exact HQ.out
        · have q : (r.stage != 0) = true := by simpa using hc
          have HE := Lib.hid (show tl3 r = tl2 r ++ [[102, 97, 117, 108, 116], itoa r.stage, itoa r.fkind, itoa r.level, hexW r.faddr.toNat] from by unfold tl3; rw [if_neg hc])
          have HE4 := Lib.hid (show tl4 r = tl3 r ++ stW r.store from by
            unfold tl4
            by_cases hs : r.store = true
            · rw [if_pos ⟨hc, hs⟩, hs]; rfl
            · rw [if_neg (fun h => hs h.2), show r.store = false from by simpa using hs]; rfl)
          have HH := Lib.hid (fun (w : World) (he : Env w) => (show Calls Tryd.prog 36 #[.int .u64 r.faddr] w (NumIs w (hexW r.faddr.toNat)) from by
            have := lhexa r.faddr.toNat (by have := HRO.out.a0; have := HRO.out.a1; omega) he
            rw [Int.toNat_of_nonneg HRO.out.a0] at this
            exact this))
          clear hc
          go_upto_region 8 with fail
          go_cut [3] (CtF w cs fb #[.int .i64 r.stage, .int .i64 r.fkind, .int .i64 r.level, .int .u64 r.faddr, .bool r.store] (thd r) (tl3 r))
          case first =>
            refine wp_region_held_drew (S := (fun w' => w'.cell? ⟨fb, 0, none⟩ = some (.int .i64 r.stage) ∧ w'.cell? ⟨fb, 1, none⟩ = some (.int .i64 r.fkind) ∧ w'.cell? ⟨fb, 2, none⟩ = some (.int .i64 r.level) ∧ w'.cell? ⟨fb, 3, none⟩ = some (.int .u64 r.faddr))) (by kernel_rfl) ?_ (fun hHeld => ?_)
            · exact ⟨(HF.out.cell 0).trans rfl, (HF.out.cell 1).trans rfl, (HF.out.cell 2).trans rfl, (HF.out.cell 3).trans rfl⟩
            replace HF := Lib.hid (show Blk w3.drew fb 44 _ from HF.out)
            replace HQ := Lib.hid (HQ.out.below (Below.refl _ _).drew)
            generalize w3.drew = wv at *
            ((refine takeY 0 (v := ?_) rfl (by kernel_rfl) (by kernel_rfl) (by kernel_rfl) (fun _ _ _ h => h) (by rfl) (by assumption) ?_ ?_; rotate_left; · (intro w hSw; (try dsimp only at hSw); go_simp; (first | done | with_reducible rfl))))
            (try simp only [Act.put, List.setIfInBounds_toArray, List.set_cons_zero, List.set_cons_succ])
            ((refine takeY 1 (v := ?_) rfl (by kernel_rfl) (by kernel_rfl) (by kernel_rfl) (fun _ _ _ h => h) (by rfl) (by assumption) ?_ ?_; rotate_left; · (intro w hSw; (try dsimp only at hSw); go_simp; (first | done | with_reducible rfl))))
            (try simp only [Act.put, List.setIfInBounds_toArray, List.set_cons_zero, List.set_cons_succ])
            ((refine takeY 2 (v := ?_) rfl (by kernel_rfl) (by kernel_rfl) (by kernel_rfl) (fun _ _ _ h => h) (by rfl) (by assumption) ?_ ?_; rotate_left; · (intro w hSw; (try dsimp only at hSw); go_simp; (first | done | with_reducible rfl))))
            (try simp only [Act.put, List.setIfInBounds_toArray, List.set_cons_zero, List.set_cons_succ])
            ((refine takeY 4 (v := ?_) rfl (by kernel_rfl) (by kernel_rfl) (by kernel_rfl) (fun _ _ _ h => h) (by rfl) (by assumption) ?_ ?_; rotate_left; · (intro w hSw; (try dsimp only at hSw); go_simp; (first | done | with_reducible rfl))))
            (try simp only [Act.put, List.setIfInBounds_toArray, List.set_cons_zero, List.set_cons_succ])
            ((refine takeY 5 (v := ?_) rfl (by kernel_rfl) (by kernel_rfl) (by kernel_rfl) (fun _ _ _ h => h) (by rfl) (by assumption) ?_ ?_; rotate_left; · (intro w hSw; (try dsimp only at hSw); go_simp; (first | done | with_reducible rfl))))
            (try simp only [Act.put, List.setIfInBounds_toArray, List.set_cons_zero, List.set_cons_succ])
            ((refine takeY 7 (v := ?_) rfl (by kernel_rfl) (by kernel_rfl) (by kernel_rfl) (fun _ _ _ h => h) (by rfl) (by assumption) ?_ ?_; rotate_left; · (intro w hSw; (try dsimp only at hSw); go_simp; (first | done | with_reducible rfl))))
            (try simp only [Act.put, List.setIfInBounds_toArray, List.set_cons_zero, List.set_cons_succ])
            ((refine takeY 8 (v := ?_) rfl (by kernel_rfl) (by kernel_rfl) (by kernel_rfl) (fun _ _ _ h => h) (by rfl) (by assumption) ?_ ?_; rotate_left; · (intro w hSw; (try dsimp only at hSw); go_simp; (first | done | with_reducible rfl))))
            (try simp only [Act.put, List.setIfInBounds_toArray, List.set_cons_zero, List.set_cons_succ])
            ((refine takeY 10 (v := ?_) rfl (by kernel_rfl) (by kernel_rfl) (by kernel_rfl) (fun _ _ _ h => h) (by rfl) (by assumption) ?_ ?_; rotate_left; · (intro w hSw; (try dsimp only at hSw); go_simp; (first | done | with_reducible rfl))))
            (try simp only [Act.put, List.setIfInBounds_toArray, List.set_cons_zero, List.set_cons_succ])
            ((refine takeY 11 (v := ?_) rfl (by kernel_rfl) (by kernel_rfl) (by kernel_rfl) (fun _ _ _ h => h) (by rfl) (by assumption) ?_ ?_; rotate_left; · (intro w hSw; (try dsimp only at hSw); go_simp; (first | done | with_reducible rfl))))
            (try simp only [Act.put, List.setIfInBounds_toArray, List.set_cons_zero, List.set_cons_succ])
            refine stepH 3 rfl (by kernel_rfl) (by rfl) (fun K hK => ?_)
            go_simp
            refine (litoa r.stage HRO.out.stage HQ.out.env).mono ?_; rintro e wn ⟨rfl, hb⟩
            replace HQ := Lib.hid (HQ.out.below hb)
            replace HF := Lib.hid (HF.out.below hb HF.out.lt)
            clear hb
            (refine hK.out _ _ ?_ (fun hHeld => ?_))
            · exact ⟨(HF.out.cell 0).trans rfl, (HF.out.cell 1).trans rfl, (HF.out.cell 2).trans rfl, (HF.out.cell 3).trans rfl⟩
            clear hK K
            obtain ⟨wd, rfl⟩ : ∃ x : World, x = wn := ⟨_, rfl⟩
            refine stepH 6 rfl (by kernel_rfl) (by rfl) (fun K hK => ?_)
            go_simp
            refine (litoa r.fkind HRO.out.fkind HQ.out.env).mono ?_; rintro e wn ⟨rfl, hb⟩
            replace HQ := Lib.hid (HQ.out.below hb)
            replace HF := Lib.hid (HF.out.below hb HF.out.lt)
            clear hb
            (refine hK.out _ _ ?_ (fun hHeld => ?_))
            · exact ⟨(HF.out.cell 0).trans rfl, (HF.out.cell 1).trans rfl, (HF.out.cell 2).trans rfl, (HF.out.cell 3).trans rfl⟩
            clear hK K
            obtain ⟨wd, rfl⟩ : ∃ x : World, x = wn := ⟨_, rfl⟩
            refine stepH 9 rfl (by kernel_rfl) (by rfl) (fun K hK => ?_)
            go_simp
            refine (litoa r.level HRO.out.level HQ.out.env).mono ?_; rintro e wn ⟨rfl, hb⟩
            replace HQ := Lib.hid (HQ.out.below hb)
            replace HF := Lib.hid (HF.out.below hb HF.out.lt)
            clear hb
            (refine hK.out _ _ ?_ (fun hHeld => ?_))
            · exact ⟨(HF.out.cell 0).trans rfl, (HF.out.cell 1).trans rfl, (HF.out.cell 2).trans rfl, (HF.out.cell 3).trans rfl⟩
            clear hK K
            obtain ⟨wd, rfl⟩ : ∃ x : World, x = wn := ⟨_, rfl⟩
            refine stepH 12 rfl (by kernel_rfl) (by rfl) (fun K hK => ?_)
            go_simp
            refine (HH.out _ HQ.out.env).mono ?_; rintro e wn ⟨rfl, hb⟩
            replace HQ := Lib.hid (HQ.out.below hb)
            replace HF := Lib.hid (HF.out.below hb HF.out.lt)
            clear hb
            (refine hK.out _ _ ?_ (fun hHeld => ?_))
            · exact ⟨(HF.out.cell 0).trans rfl, (HF.out.cell 1).trans rfl, (HF.out.cell 2).trans rfl, (HF.out.cell 3).trans rfl⟩
            clear hK K
            obtain ⟨wd, rfl⟩ : ∃ x : World, x = wn := ⟨_, rfl⟩
            refine stepH 13 rfl (by kernel_rfl) (by rfl) (fun K hK => ?_)
            go_simp
            have hbx := (Below.refl wd.heap.size wd).alloc (Nat.le_refl _) (.cells #[bv [102, 97, 117, 108, 116], bv (itoa r.stage), bv (itoa r.fkind), bv (itoa r.level), bv (hexW r.faddr.toNat)] 9)
            have HR5 := Lib.hid (Reads.of_row (Blk.new wd 9 #[bv [102, 97, 117, 108, 116], bv (itoa r.stage), bv (itoa r.fkind), bv (itoa r.level), bv (hexW r.faddr.toNat)]))
            replace HQ := Lib.hid (HQ.out.below hbx)
            replace HF := Lib.hid (HF.out.below hbx HF.out.lt)
            clear hbx
            (refine hK.out _ _ ?_ (fun hHeld => ?_))
            · exact ⟨(HF.out.cell 0).trans rfl, (HF.out.cell 1).trans rfl, (HF.out.cell 2).trans rfl, (HF.out.cell 3).trans rfl⟩
            clear hK K
            generalize hwn : wd.alloc (.cells #[bv [102, 97, 117, 108, 116], bv (itoa r.stage), bv (itoa r.fkind), bv (itoa r.level), bv (hexW r.faddr.toNat)] 9) = we at *
            clear hwn
            refine stepH 14 rfl (by kernel_rfl) (by rfl) (fun K hK => ?_)
            (refine wp_append_any _ (.tmp 29) (.tmp 42) _ rfl (w.heap.size + 1) 9 i0 _ 1 16 Tryd.underlying36 hi0 hz0' hz1 hz2 rfl (by omega) _ _ _ rfl HQ.out.own _ (some ⟨wd.heap.size, 0, none⟩) 5 _ [bv [102, 97, 117, 108, 116], bv (itoa r.stage), bv (itoa r.fkind), bv (itoa r.level), bv (hexW r.faddr.toNat)] rfl HR5.out (by intro u hu; simp only [List.mem_cons, List.not_mem_nil, or_false] at hu; rcases hu with rfl | rfl | rfl | rfl | rfl <;> rfl) (by have := HQ.out.len; unfold maxLen; simp only [List.length_cons]; omega) (by have := HQ.out.len; simp only [List.length_cons]; omega) HQ.out.blk.lt ?_; intro v2 w4 hown2 hg4 hat4)
            replace HF := Lib.hid (HF.out.grown hg4 (fun e => by have := HNE.out fb e.symm; omega))
            replace HQ := Lib.hid (CtP.app HS8.out HQ.out (M := [[102, 97, 117, 108, 116], itoa r.stage, itoa r.fkind, itoa r.level, hexW r.faddr.toNat]) hown2 hg4 (by have := HTL.out; simp only [List.length_cons, List.length_nil]; omega))
            clear hown2 hg4 hat4
            (refine hK.out _ _ ?_ (fun hHeld => ?_))
            · exact ⟨(HF.out.cell 0).trans rfl, (HF.out.cell 1).trans rfl, (HF.out.cell 2).trans rfl, (HF.out.cell 3).trans rfl⟩
            clear hK K
            ((refine takeY 15 (v := ?_) rfl (by kernel_rfl) (by kernel_rfl) (by kernel_rfl) (fun _ _ _ h => h) (by rfl) (by assumption) ?_ ?_; rotate_left; · (intro w hSw; (try dsimp only at hSw); go_simp; (first | done | with_reducible rfl))))
            (try simp only [Act.put, List.setIfInBounds_toArray, List.set_cons_zero, List.set_cons_succ])
            refine wpAnyH_done (by kernel_rfl) ?_ _
            clear hHeld
            go_wp2
            go_meet
            unfold CtF
            rw [HE.out]
            exact ⟨HQ.out, HF.out⟩
          case rest =>
            clear HQ HF
            have HQ := Lib.hid hcut.1
            have hv := (hcut.2.cell 4).trans rfl
            clear hcut
            obtain ⟨sb, hsb⟩ : ∃ b, r.store = b := ⟨_, rfl⟩
            rw [hsb] at hv
            have HE5 := Lib.hid (show tl4 r = tl3 r ++ stW sb from by rw [← hsb]; exact HE4.out)
            clear hsb HE4
            cases sb with
            | true =>
              obtain ⟨wk, hwk⟩ : ∃ x : World, x = wc := ⟨_, rfl⟩
              go_wp2_with (first
                | (at_builtin; refine wpList_append_any _ rfl (.tmp 46) (.tmp 47) _ rfl (w.heap.size + 1) 9 i0 _ 1 16 Tryd.underlying36 hi0 hz0' hz1 hz2 rfl (by omega) _ _ _ rfl (HQ.out.own.alloc _) _ (some ⟨(wc).heap.size, 0, none⟩) 1 1 [bv [115, 116, 111, 114, 101]] rfl (reads_one1 wc _ _) (by simp; rfl) (by have := HQ.out.len; unfold maxLen; simp only [List.length_cons]; omega) (by have := HQ.out.len; simp only [List.length_cons]; omega) (by have := HQ.out.blk.lt; simp; omega) ?_; intro v2 w4 hown2 hg4 hat4)
                | fail)
              have HQ2 := Lib.hid (CtP.app HS8.out (HQ.out.below ((Below.refl _ _).alloc (Nat.le_refl _) _)) (M := [[115, 116, 111, 114, 101]]) hown2 hg4 (by have := HTL.out; skip; simp only [List.length_cons, List.length_nil]; omega))
              clear hown2 hg4 hat4
              go_wp2
              go_meet
              rw [HE5.out]
              exact HQ2.out
            | false =>
              go_wp2
              go_meet
              rw [HE5.out, show stW false = [] from rfl, List.append_nil]
              exact HQ.out
      case rest =>
        clear HQ HF HNE
        have HQ := Lib.hid hcut
        clear hcut
        have hv7 := (HQ.out.blk.cell 7).trans HC.out.2.2.2
        go_upto_if 52 with (fail)
        go_cut [3] (CtP w w.heap.size cs (thd r) (tl5 r))
        case first =>
          by_cases hc : 0 < n
          · have q : decide ((n : Int) > 0) = true := decide_eq_true (by omega)
            have q' : decide (0 < n) = true := decide_eq_true hc
            have HE := Lib.hid (show tl5 r = tl4 r ++ [[112, 97, 103, 101, 115]] from by unfold tl5; rw [if_neg]; intro e; have := HN.out; rw [e] at this; simp at this; omega)
            clear hv7
            go_wp2_with (first
              | (at_builtin; refine wpList_append_any _ rfl (.tmp 53) (.tmp 54) _ rfl (w.heap.size + 1) 9 i0 _ 1 16 Tryd.underlying36 hi0 hz0' hz1 hz2 rfl (by omega) _ _ _ rfl (HQ.out.own.alloc _) _ (some ⟨(wc).heap.size, 0, none⟩) 1 1 [bv [112, 97, 103, 101, 115]] rfl (reads_one1 wc _ _) (by simp; rfl) (by have := HQ.out.len; unfold maxLen; simp only [List.length_cons]; omega) (by have := HQ.out.len; simp only [List.length_cons]; omega) (by have := HQ.out.blk.lt; simp; omega) ?_; intro v2 w4 hown2 hg4 hat4)
              | fail)
            have HQ2 := Lib.hid (CtP.app HS8.out (HQ.out.below ((Below.refl _ _).alloc (Nat.le_refl _) _)) (M := [[112, 97, 103, 101, 115]]) hown2 hg4 (by have := HTL.out; skip; simp only [List.length_cons, List.length_nil]; omega))
            clear hown2 hg4 hat4
            go_wp2
            go_meet
            rw [HE.out]
            exact HQ2.out
          · have q : decide ((n : Int) > 0) = false := decide_eq_false (by omega)
            have q' : decide (0 < n) = false := decide_eq_false hc
            have HE := Lib.hid (show tl5 r = tl4 r from by unfold tl5; rw [if_pos (List.eq_nil_of_length_eq_zero (by have := HN.out; omega)), List.append_nil])
            go_wp2
            go_meet
            rw [HE.out]
            exact HQ.out
        case rest =>
          clear HQ hv7
          have HQ := Lib.hid hcut
          clear hcut
          have hv7 := (HQ.out.blk.cell 7).trans HC.out.2.2.2
          go_wp2_with fail
          clear hv7
          go_loopw [59, 3] (TlP w cs (thd r) (tl5 r) r.pages) (fun v _ _ => n - cntZ v)
          case atStart => exact ⟨0, rfl, Nat.zero_le _, by simp only [pgW, List.take_zero, List.map_nil, List.append_nil]; exact HQ.out⟩
          case round =>
            clear HQ
            obtain ⟨i, rfl, hi, hQ⟩ := hrel
            have HQ := Lib.hid hQ
            rw [HN.out] at hi
            clear hQ
            by_cases hin : i < n
            · have g1 : decide ((i : Int) < (n : Int)) = true := by simp; exact hin
              have g1' : decide (i < n) = true := by simp; exact hin
              obtain ⟨ad, u, hA, _, hu, hcx⟩ := (HP.out.below HQ.out.be).at_ hin
              obtain ⟨x, hx⟩ : ∃ x, r.pages[i]? = some x := ⟨_, List.getElem?_eq_getElem (by have := HN.out; omega)⟩
              have HX := Lib.hid hx
              have HXB := Lib.hid (HRO.out.pg x (List.mem_of_getElem? hx))
              rw [List.getElem?_map, hx] at hu
              obtain rfl : Value.int .u64 x = u := by simpa using hu
              have HH := Lib.hid (fun (w : World) (he : Env w) => (show Calls Tryd.prog 36 #[.int .u64 x] w (NumIs w (hexW x.toNat)) from by
                have := lhexa x.toNat (by have := HXB.out; omega) he
                rw [Int.toNat_of_nonneg HXB.out.1] at this
                exact this))
              subst hA
              clear hu hx
              go_wp2_with fail
              refine (HH.out _ HQ.out.env).mono ?_; rintro e w2 ⟨rfl, hb⟩
              replace HQ := Lib.hid (HQ.out.below hb)
              clear hb hcx
              have HPL := Lib.hid (show (tl5 r ++ pgW (r.pages.take i)).length ≤ 1009 from by rw [List.length_append]; unfold pgW; rw [List.length_map, List.length_take]; have := HTL.out; omega)
              go_wp2_with (first
                | (at_builtin; refine wpList_append_any _ rfl (.tmp 63) (.tmp 66) _ rfl (w.heap.size + 1) 9 i0 _ 1 16 Tryd.underlying36 hi0 hz0' hz1 hz2 rfl (by omega) _ _ _ rfl (HQ.out.own.alloc _) _ (some ⟨(w2).heap.size, 0, none⟩) 1 1 [bv (hexW x.toNat)] rfl (reads_one1 w2 _ _) (by simp; rfl) (by have := HQ.out.len; unfold maxLen; simp only [List.length_cons]; omega) (by have := HQ.out.len; simp only [List.length_cons]; omega) (by have := HQ.out.blk.lt; simp; omega) ?_; intro v2 w4 hown2 hg4 hat4)
                | fail)
              have HQ2 := Lib.hid (CtP.app HS8.out (HQ.out.below ((Below.refl _ _).alloc (Nat.le_refl _) _)) (M := [(hexW x.toNat)]) hown2 hg4 (by have := HTL.out; have := HPL.out; simp only [List.length_cons, List.length_nil]; omega))
              clear hown2 hg4 hat4
              refine ⟨⟨i + 1, by go_num, by rw [HN.out]; omega, ?_⟩, cntZ_lt hin⟩
              rw [pgW_snoc HX.out, ← List.append_assoc]
              exact HQ2.out
            · obtain rfl : i = n := by omega
              have g1 : decide ((i : Int) < (i : Int)) = false := by simp
              have hto : r.pages.take i = r.pages := List.take_of_length_le (by have := HN.out; omega)
              rw [hto] at HQ
              clear hto
              have hjb := join_bound 20 _ _ (tell_words HRO.out)
              have hlb : (tl5 r ++ pgW r.pages).length ≤ 1009 := by rw [List.length_append]; unfold pgW; rw [List.length_map]; have := HTL.out; have := HN.out; omega
              go_wp2_with fail
              refine (ljoin (ownsRow_mono HQ.out.own (Nat.zero_le _)) (by simp only [List.length_cons]; omega) (by
                have : ((tl5 r ++ pgW r.pages).length + 1) * (20 + 1) ≤ 1010 * 21 := Nat.mul_le_mul_right _ (by omega)
                omega)).mono ?_; rintro e w9 ⟨rfl, hb⟩
              go_wp2
              go_ret
              exact ⟨rfl, HQ.out.be.trans (hb.mono HQ.out.be.size)⟩
end Go.Proofs.YtjofegjiakjjhaaDoor
