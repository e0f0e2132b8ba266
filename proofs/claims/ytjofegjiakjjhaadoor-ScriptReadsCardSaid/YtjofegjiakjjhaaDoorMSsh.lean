import Derived.Test.YtjofegjiakjjhaaDoorMSsg
import Derived.Test.YtjofegjiakjjhaaDoorMSsd
/- Script, the program: Read. -/
namespace Go.Proofs.YtjofegjiakjjhaaDoor
open Go.RowKit Go.Lib Mf

/-- The step of a line. -/
noncomputable def parseO (l : Bs) : Option St := open Classical in if h : l.length ≤ 1100 ∧ ∃ s : St, s.wf ∧ IsT s l then some (Classical.choose h.2) else none
theorem parseO_some {l : Bs} {s : St} (hl : l.length ≤ 1100) (hs : s.wf) (ht : IsT s l) : parseO l = some s := by
  unfold parseO
  rw [dif_pos ⟨hl, s, hs, ht⟩]
  have h9 := Classical.choose_spec (⟨s, hs, ht⟩ : ∃ s : St, s.wf ∧ IsT s l)
  rw [isT_unique h9.1 hs h9.2 ht]
theorem parseIs_O {l : Bs} {s : St} {c : Int} (h : ParseIs l s c) : (c = 0 ∧ parseO l = some s) ∨ (c ≠ 0 ∧ parseO l = none) := by
  cases h with
  | long h => exact .inr ⟨by decide, by unfold parseO; rw [dif_neg (fun e => by have := e.1; omega)]⟩
  | is h hs ht => exact .inl ⟨rfl, parseO_some h hs ht⟩
  | none h ht => exact .inr ⟨by decide, by unfold parseO; rw [dif_neg]; rintro ⟨_, s, hs, h9⟩; exact ht s hs h9⟩
def skipL (l : Bs) : Bool := l == [] || l.head? == some 35
/-- The steps of lines, n lines being read; the second: the line that is none. -/
noncomputable def rdF : Nat → List Bs → List St × Nat
  | _, [] => ([], 0)
  | n, l :: ls => if skipL l then rdF (n + 1) ls else match parseO l with
    | none => ([], n + 1)
    | some s => (s :: (rdF (n + 1) ls).1, (rdF (n + 1) ls).2)
/-- The steps of a text. -/
noncomputable def ReadS (t : Bs) : List St × Int × Nat := if 200000 < t.length then ([], 2, 0) else
  if (rdF 0 (cutL 10 t)).2 ≠ 0 then ([], 4, (rdF 0 (cutL 10 t)).2) else
  if 4096 < (rdF 0 (cutL 10 t)).1.length then ([], 2, 0) else ((rdF 0 (cutL 10 t)).1, 0, 0)
/-- What is left to read. -/
def RdI (ls : List Bs) (i : Nat) (acc : List St) : Prop := rdF 0 ls = (acc ++ (rdF i (ls.drop i)).1, (rdF i (ls.drop i)).2)
theorem RdI.start (ls : List Bs) : RdI ls 0 [] := rfl
theorem drop_at {ls : List Bs} {i : Nat} {x : Bs} (hx : ls[i]? = some x) : ls.drop i = x :: ls.drop (i + 1) := by
  obtain ⟨h, rfl⟩ := List.getElem?_eq_some_iff.1 hx
  exact List.drop_eq_getElem_cons h
theorem RdI.skip {ls : List Bs} {i : Nat} {acc : List St} {x : Bs} (h : RdI ls i acc) (hx : ls[i]? = some x) (hs : skipL x = true) : RdI ls (i + 1) acc := by
  unfold RdI at h ⊢
  rw [h, drop_at hx, rdF, if_pos hs]
theorem RdI.more {ls : List Bs} {i : Nat} {acc : List St} {x : Bs} {s : St} (h : RdI ls i acc) (hx : ls[i]? = some x) (hs : skipL x = false) (hp : parseO x = some s) : RdI ls (i + 1) (acc ++ [s]) := by
  unfold RdI at h ⊢
  rw [h, drop_at hx, rdF, if_neg (by rw [hs]; decide), hp]
  simp
theorem RdI.bad {ls : List Bs} {i : Nat} {acc : List St} {x : Bs} (h : RdI ls i acc) (hx : ls[i]? = some x) (hs : skipL x = false) (hp : parseO x = none) : (rdF 0 ls).2 = i + 1 := by
  unfold RdI at h
  rw [h, drop_at hx, rdF, if_neg (by rw [hs]; decide), hp]
theorem RdI.done {ls : List Bs} {acc : List St} {i : Nat} (h : RdI ls i acc) (hi : ls.length ≤ i) : rdF 0 ls = (acc, 0) := by
  unfold RdI at h
  rw [h, List.drop_eq_nil_of_le hi, rdF, List.append_nil]
/-- Steps of the call's own. -/
structure LsR (w : World) (B : Nat) (l : List (St × Value)) (v : Value) : Prop where
  row : w.ownsRow B 25 12 v l.length (l.flatMap stL)
  own : ∀ p ∈ l, BRow w B p.2 p.1.fails
  ne : ∀ p ∈ l, ∀ g, p.2.ownBlock = some g → v.ownBlock ≠ some g
  ok : ∀ p ∈ l, p.1.ok ∧ p.1.fails.length ≤ 100000
theorem LsR.below {w w' : World} {B : Nat} {l : List (St × Value)} {v : Value} (h : LsR w B l v) (hb : Below w.heap.size w w') : LsR w' B l v := ⟨own_below h.row hb, fun p hp => own_below (h.own p hp) hb, h.ne, h.ok⟩
theorem LsR.nil (w : World) (B : Nat) : LsR w B [] (.slice none 0 0) := ⟨World.ownsRow_nil _ _ _ _, fun u h => (by cases h), fun u h => (by cases h), fun u h => (by cases h)⟩
theorem LsR.low {w : World} {B B' : Nat} {l : List (St × Value)} {v : Value} (h : LsR w B l v) (hB : B' ≤ B) : LsR w B' l v := ⟨ownsRow_mono h.row hB, fun p hp => ownsRow_mono (h.own p hp) hB, h.ne, h.ok⟩
theorem LsR.more {wr wa w4 : World} {B : Nat} {l : List (St × Value)} {v v4 : Value} {s : St} {F : Value} (h : LsR wr B l v) (hb : Below wr.heap.size wr wa) (hn : BRow wa wr.heap.size F s.fails) (hB : B ≤ wr.heap.size) (hok : s.ok ∧ s.fails.length ≤ 100000)
    (hrow : w4.ownsRow B 25 12 v4 (l.length + 1) (l.flatMap stL ++ stL (s, F))) (hg : wa.grownBy w4 v.ownBlock) (hat : v4.ownBlock = v.ownBlock ∨ v4.ownBlock = some wa.heap.size) : LsR w4 B (l ++ [(s, F)]) v4 := by
  have hub : ∀ g, v.ownBlock = some g → g < wr.heap.size := fun g hg => (h.row.lt g hg).2
  have hnF : ∀ g, F.ownBlock = some g → wr.heap.size ≤ g ∧ g < wa.heap.size := fun g hg => hn.lt g hg
  refine ⟨by rw [List.length_append, List.flatMap_append]; simpa using hrow, fun p hp => ?_, fun p hp g hg9 => ?_, fun p hp => ?_⟩
  · rcases List.mem_append.1 hp with hp | hp
    · refine (own_below (h.own p hp) hb).kept hg ?_
      cases e : p.2.ownBlock with
      | none => exact .inl rfl
      | some g => exact .inr (fun e2 => h.ne p hp g e e2.symm)
    · rw [List.mem_singleton] at hp; subst hp
      refine (ownsRow_mono hn hB).kept hg ?_
      cases e : F.ownBlock with
      | none => exact .inl rfl
      | some g => exact .inr (fun e2 => by have := hub g e2.symm; have := hnF g e; omega)
  · rcases List.mem_append.1 hp with hp | hp
    · rcases hat with e | e
      · rw [e]; exact h.ne p hp g hg9
      · rw [e]; intro e2; have := Option.some.inj e2; have := ((h.own p hp).lt g hg9).2; have := hb.size; omega
    · rw [List.mem_singleton] at hp; subst hp
      rcases hat with e | e
      · rw [e]; intro e2; have := hub g e2; have := hnF g hg9; omega
      · rw [e]; intro e2; have := Option.some.inj e2; have := hnF g hg9; omega
  · rcases List.mem_append.1 hp with hp | hp
    · exact h.ok p hp
    · rw [List.mem_singleton] at hp; subst hp; exact hok
theorem LsR.sts {w : World} {B : Nat} {l : List (St × Value)} {v : Value} (h : LsR w B l v) : ∃ A c, v = .slice A l.length c ∧ StsR w w.heap.size A l := by
  obtain ⟨A, c, rfl⟩ : ∃ A c, v = .slice A l.length c := by
    rcases h.row.2 with ⟨rfl, h0⟩ | ⟨g, cap, cur, rfl, _⟩
    · exact ⟨none, 0, by rw [h0]⟩
    · exact ⟨_, _, rfl⟩
  refine ⟨A, c, rfl, Reads.of_own h.row, fun p hp => ?_⟩
  obtain ⟨FA, Fc, e⟩ := (h.own p hp).form
  have h9 := h.own p hp
  unfold BRow at h9
  rw [e] at h9
  exact ⟨FA, Fc, e, Reads.of_own h9⟩
theorem reads_one12 {w : World} {g : Nat} {t : TypeId} {s : St} {F : Value} (h : Blk w g t (stC s F)) : Reads w w.heap.size 12 (some ⟨g, 0, none⟩) 1 (stL (s, F)) := by
  have h9 := Reads.of_row h
  refine ⟨rfl, fun _ => h9.2 (by show 0 < 12; omega)⟩
theorem stL_one (s : St) (A : Option Addr) (n c : Nat) : ∀ u ∈ stL (s, .slice A n c), u.oneCell' = true := by
  intro u hu
  unfold stL stC at hu
  simp only [List.mem_cons, List.not_mem_nil, or_false] at hu
  rcases hu with rfl | rfl | rfl | rfl | rfl | rfl | rfl | rfl | rfl | rfl | rfl | rfl <;> rfl
def ReadIs (t : Bs) (w : World) (e : Ending) (w' : World) : Prop := ∃ (l : List (St × Value)) (v : Value) (c : Int) (k : Nat), e = .returned (.tuple #[v, .int .i64 c, .int .i64 k]) ∧ ReadS t = (l.map (·.1), c, k) ∧ LsR w' w.heap.size l v ∧ Below w.heap.size w w'
theorem infoSt : (Tryd.prog.info? 25).map (fun i => (i.zero, i.size, i.bytes)) = some (some (.agg #[.int .i64 0, .int .i64 0, .int .u64 0, .int .i64 0, .int .u64 0, .int .i64 0, .bool false, .int .i64 0, .int .i64 0, .int .i64 0, .int .i64 0, .slice none 0 0]), 12, 112) := by kernel_rfl
def RdP (w1 : World) (ls : List Bs) (v16 v5 : Value) (wr : World) : Prop := ∃ (i : Nat) (l : List (St × Value)), v16 = .int .i64 i ∧ i ≤ ls.length ∧ LsR wr w1.heap.size l v5 ∧ l.length ≤ i ∧ RdI ls i (l.map (·.1)) ∧ Below w1.heap.size w1 wr
set_option maxRecDepth 20000 in
set_option maxHeartbeats 8000000 in
theorem lread (t : Bs) (ht : t.length ≤ 1000000) {w : World} (he : Env w) : Calls Tryd.prog 20 #[bv t] w (ReadIs t w) := by
  obtain ⟨n, hn⟩ : ∃ n, t.length = n := ⟨_, rfl⟩
  obtain ⟨i0, hi0, hz0', hz1, hz2⟩ := info_parts infoSt
  by_cases hbig : 200000 < n
  · have g1 : decide ((n : Int) > 200000) = true := decide_eq_true (by omega)
    have g1' : decide (200000 < n) = true := decide_eq_true hbig
    go_enter Tryd.func20, Tryd.ntmps20
    go_wp2
    go_ret3
    exact ⟨[], _, 2, 0, rfl, by unfold ReadS; rw [if_pos (by omega)]; rfl, LsR.nil _ _, Below.refl _ _⟩
  · have g1 : decide ((n : Int) > 200000) = false := decide_eq_false (by omega)
    have g1' : decide (200000 < n) = false := decide_eq_false hbig
    have HSP := Lib.hid (lsplit 10 t (by omega) he)
    have HE := Lib.hid he
    have HRS := Lib.hid (show ReadS t = _ from by unfold ReadS; rw [if_neg (by omega)])
    have hcc := cutL_count 10 t
    obtain ⟨ls, hls⟩ : ∃ ls, cutL 10 t = ls := ⟨_, rfl⟩
    rw [hls] at HSP HRS hcc
    have HTL := Lib.hid (show ∀ x ∈ ls, x.length ≤ 200000 from fun x hx => by have := cutL_len 10 t x (by rw [hls]; exact hx); omega)
    have hml : ls.length ≤ 200001 := by omega
    obtain ⟨m, hm⟩ : ∃ m, ls.length = m := ⟨_, rfl⟩
    have HM := Lib.hid hm
    rw [hm] at hml HSP
    clear he hls hm hcc
    go_enter Tryd.func20, Tryd.ntmps20
    go_wp2_with fail
    refine HSP.out.mono ?_; rintro e w1 ⟨v4, rfl, hW, hb⟩
    have HB1 := Lib.hid hb
    have HE1 := Lib.hid (HE.out.below hb)
    have hrd := hW
    obtain ⟨A, c, rfl⟩ : ∃ A c, v4 = .slice A m c := by
      rcases own_cases hW with ⟨rfl, h0⟩ | ⟨g, cc, rfl, _⟩
      · exact ⟨none, 0, by rw [h0]⟩
      · exact ⟨_, _, rfl⟩
    have HRD := Lib.hid (Reads.of_own hW)
    clear hW hb hrd HSP
    go_wp2_with fail
    go_loopw [16, 5] (RdP w1 ls) (fun v _ _ => m - cntZ v)
    case atStart => exact ⟨0, [], rfl, Nat.zero_le _, LsR.nil _ _, Nat.le_refl _, RdI.start _, Below.refl _ _⟩
    case round =>
      obtain ⟨i, l, rfl, hi, hL, hli, hI, hbe⟩ := hrel
      have HL := Lib.hid hL
      have HI := Lib.hid hI
      have HBE := Lib.hid hbe
      rw [HM.out] at hi
      clear hL hI hbe
      by_cases hin : i < m
      · have g2 : decide ((i : Int) < (m : Int)) = true := by simp; exact hin
        have g2' : decide (i < m) = true := by simp; exact hin
        obtain ⟨x, hx⟩ : ∃ x, ls[i]? = some x := ⟨_, List.getElem?_eq_getElem (by rw [HM.out]; exact hin)⟩
        have HX := Lib.hid hx
        have HXL := Lib.hid (HTL.out x (List.mem_of_getElem? hx))
        obtain ⟨ad, u, hA, _, hu, hcx⟩ := (HRD.out.below HBE.out).at_ hin
        rw [List.getElem?_map, hx] at hu
        obtain rfl : bv x = u := by simpa using hu
        have HMI := Lib.hid (show i + 1 ≤ ls.length by rw [HM.out]; exact hin)
        subst hA
        clear hu hx
        by_cases hx0 : x = []
        · have q0 : (x == []) = true := beq_iff_eq.2 hx0
          have HSK := Lib.hid (show skipL x = true from by rw [hx0]; rfl)
          clear hx0
          go_wp2
          refine ⟨⟨i + 1, l, by go_num, HMI.out, HL.out, by omega, HI.out.skip HX.out HSK.out, HBE.out⟩, cntZ_lt hin⟩
        · have q0 : (x == []) = false := beq_eq_false_iff_ne.2 hx0
          have hsz : 0 < (⟨x.toArray⟩ : ByteArray).size := by
            show 0 < x.length
            exact List.length_pos_iff.2 hx0
          obtain ⟨z, hz⟩ : ∃ z : Nat, ((⟨x.toArray⟩ : ByteArray)[0]'hsz).toNat = z := ⟨_, rfl⟩
          have HZ := Lib.hid (show skipL x = (z == 35) from by
            cases x with
            | nil => exact absurd rfl hx0
            | cons y r =>
              have hz9 : y.toNat = z := hz
              rw [← hz9]
              unfold skipL
              have : ∀ n : Fin 256, ((some (UInt8.ofNat n.1) : Option UInt8) == some 35) = ((UInt8.ofNat n.1).toNat == 35) := by decide +kernel
              have h9 := this ⟨y.toNat, UInt8.toNat_lt _⟩
              have e : UInt8.ofNat y.toNat = y := by simp
              rw [e] at h9
              simpa using h9)
          clear hx0
          by_cases h35 : z = 35
          · have g3 : ((z : Int) == 35) = true := beq_iff_eq.2 (by omega)
            have g3' : (z == 35) = true := beq_iff_eq.2 h35
            have HSK := Lib.hid (show skipL x = true from by rw [HZ.out]; exact g3')
            clear h35
            go_wp2
            refine ⟨⟨i + 1, l, by go_num, HMI.out, HL.out, by omega, HI.out.skip HX.out HSK.out, HBE.out⟩, cntZ_lt hin⟩
          · have g3 : ((z : Int) == 35) = false := beq_eq_false_iff_ne.2 (by omega)
            have g3' : (z == 35) = false := beq_eq_false_iff_ne.2 h35
            have HSK := Lib.hid (show skipL x = false from by rw [HZ.out]; exact g3')
            clear h35
            go_wp2_with fail
            refine (lparse x (by have := HXL.out; omega) (HE1.out.below HBE.out)).mono ?_; rintro e w2 ⟨s, F, c8, rfl, hp, hok, hW, hfl, hb⟩
            obtain ⟨FA, Fc, rfl⟩ := hW.form
            have HW := Lib.hid hW
            have HP := Lib.hid hp
            have HOK := Lib.hid (show s.ok ∧ s.fails.length ≤ 100000 from ⟨hok, hfl⟩)
            have HB2 := Lib.hid hb
            clear hW hp hok hfl hb hcx
            go_upto_region 9 with fail
            have HC9 := Lib.hid (show Blk (w2.alloc (.cells (stC s (.slice FA s.fails.length Fc)) 25)) w2.heap.size 25 (stC s (.slice FA s.fails.length Fc)) from Blk.new _ _ _)
            replace HB2 := Lib.hid (HB2.out.alloc HB2.out.size (.cells (stC s (.slice FA s.fails.length Fc)) 25))
            replace HW := Lib.hid (HW.out.alloc (.cells (stC s (.slice FA s.fails.length Fc)) 25))
            have hc9 := HC9.out
            unfold stC at HB2 HW hc9
            generalize w2.alloc (.cells #[.int .i64 s.kind, .int .i64 s.guest, .int .u64 s.addr, .int .i64 s.size, .int .u64 s.value, .int .i64 s.page, .bool s.on, .int .i64 s.asid, .int .i64 s.what, .int .i64 s.set, .int .i64 s.way, .slice FA s.fails.length Fc] 25) = wa at *
            clear HC9
            have HC := Lib.hid (show Blk wa w2.heap.size 25 (stC s (.slice FA s.fails.length Fc)) from hc9)
            clear hc9
            rcases parseIs_O HP.out with ⟨rfl, hpo⟩ | ⟨hc0, hpn⟩
            · have HPO := Lib.hid hpo
              clear hpo
              have cs1 := stC_cells HC.out
              have HCB := Lib.hid (show Blk (wa.alloc (.cells (stC s (.slice FA s.fails.length Fc)) 25)) wa.heap.size 25 (stC s (.slice FA s.fails.length Fc)) from Blk.new _ _ _)
              have HB3 := Lib.hid (HB2.out.alloc HB2.out.size (.cells (stC s (.slice FA s.fails.length Fc)) 25))
              have HW3 := Lib.hid (HW.out.alloc (.cells (stC s (.slice FA s.fails.length Fc)) 25))
              have HL3 := Lib.hid (own_below HL.out.row HB3.out)
              have HSZ := Lib.hid (show w1.heap.size ≤ wa.heap.size + 1 from by have := HBE.out.size; have := HB2.out.size; omega)
              go_wp2_with (first
                | (at_builtin; (refine wpList_append_any _ rfl (.tmp 37) (.tmp 39) _ rfl w1.heap.size 25 i0 _ 12 112 Tryd.underlying28 hi0 hz0' hz1 hz2 rfl (by omega) _ _ _ rfl HL3.out _ (some ⟨wa.heap.size, 0, none⟩) 1 1 (stL (s, .slice FA s.fails.length Fc)) rfl (reads_one12 HCB.out) (stL_one _ _ _ _) (by unfold maxLen; omega) (by omega) (by have := HSZ.out; simp; omega) ?_; intro v2 w4 hown2 hg4 hat4))
                | fail)
              refine ⟨⟨i + 1, l ++ [(s, .slice FA s.fails.length Fc)], by go_num, HMI.out, HL.out.more HB3.out HW3.out HBE.out.size HOK.out hown2 hg4 hat4, by rw [List.length_append, List.length_singleton]; omega, ?_, ?_⟩, cntZ_lt hin⟩
              · rw [List.map_append]
                exact HI.out.more HX.out HSK.out HPO.out
              · exact (HBE.out.trans (HB3.out.mono HBE.out.size)).grown hg4 (by have := HSZ.out; simp; omega) (fun g hg => (HL.out.row.lt g hg).1)
            · have q9 : (c8 != 0) = true := bne_iff_ne.2 hc0
              have HK := Lib.hid (HI.out.bad HX.out HSK.out hpn)
              clear hc0 hpn
              go_wp2
              go_ret3
              exact ⟨[], _, 4, i + 1, by go_num, by rw [HRS.out, if_pos (by rw [HK.out]; omega), HK.out]; rfl, LsR.nil _ _, HB1.out.trans ((HBE.out.trans (HB2.out.mono HBE.out.size)).mono HB1.out.size)⟩
      · obtain rfl : i = m := by omega
        have g2 : decide ((i : Int) < (i : Int)) = false := by simp
        have HD := Lib.hid (HI.out.done (by rw [HM.out]; exact Nat.le_refl _))
        obtain ⟨lA, lc, rfl, _⟩ := HL.out.sts
        obtain ⟨q, hq⟩ : ∃ q, l.length = q := ⟨_, rfl⟩
        have HQ := Lib.hid hq
        rw [hq]
        by_cases hb2 : 4096 < q
        · have g3 : decide ((q : Int) > 4096) = true := decide_eq_true (by omega)
          have g3' : decide (4096 < q) = true := decide_eq_true hb2
          go_wp2
          go_ret3
          exact ⟨[], _, 2, 0, rfl, by rw [HRS.out, HD.out, if_neg (by simp), if_pos (by rw [List.length_map, HQ.out]; exact hb2)]; rfl, LsR.nil _ _, HB1.out.trans (HBE.out.mono HB1.out.size)⟩
        · have g3 : decide ((q : Int) > 4096) = false := decide_eq_false (by omega)
          have g3' : decide (4096 < q) = false := decide_eq_false hb2
          go_wp2
          go_ret3
          exact ⟨l, _, 0, 0, rfl, by rw [HRS.out, HD.out, if_neg (by simp), if_neg (by rw [List.length_map, HQ.out]; exact hb2)], by rw [← HQ.out]; exact HL.out.low HB1.out.size, HB1.out.trans (HBE.out.mono HB1.out.size)⟩
end Go.Proofs.YtjofegjiakjjhaaDoor
