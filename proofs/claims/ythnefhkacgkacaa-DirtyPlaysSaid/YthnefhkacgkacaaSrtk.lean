/- pdqsortOrdered at words. -/
import Derived.Test.YthnefhkacgkacaaSrti
namespace Go.Proofs.Ythnefhkacgkacaa
open Go.RowKit

def PdqIs (w : World) (base g n cap a b : Nat) (d : List Int) (e : Ending) (w' : World) : Prop := e = .returned (.tuple #[]) ∧ ∃ d', RowU w base g n cap d a b d' w' ∧ Srtd d' a b

/-- The sort under way: all but what lies between a' and b' is in order. -/
structure PdS (w : World) (base g n cap : Nat) (d0 : List Int) (a b a' b' : Nat) (d : List Int) (wr : World) : Prop where
  row : RowU w base g n cap d0 a b d wr
  rest : Rest d a b a' b'
  low : Low d a b
  ha : a ≤ a'
  hab : a' ≤ b'
  hb : b' ≤ b
  hn : b ≤ n

section
variable {w wr w' : World} {base g n cap a b a' b' : Nat} {d0 d d' : List Int}
theorem PdS.step (h : PdS w base g n cap d0 a b a' b' d wr) (k : RowU wr base g n cap d a' b' d' w') : PdS w base g n cap d0 a b a' b' d' w' :=
  ⟨h.row.trans k h.ha h.hb, h.rest.seg k.seg h.ha h.hb (by rw [h.row.len]; exact h.hn), h.low.seg (k.seg.mono h.ha h.hb) (by rw [h.row.len]; exact h.hn), h.ha, h.hab, h.hb, h.hn⟩
theorem PdS.drewN (h : PdS w base g n cap d0 a b a' b' d wr) (q : Nat) : PdS w base g n cap d0 a b a' b' d (wr.drewN q) := ⟨h.row.drewN q, h.rest, h.low, h.ha, h.hab, h.hb, h.hn⟩
theorem PdS.quiet (h : PdS w base g n cap d0 a b a' b' d wr) (hb : Below wr.heap.size wr w') : PdS w base g n cap d0 a b a' b' d w' :=
  ⟨⟨own_below h.row.own hb, h.row.seg, grownBy_tr h.row.grown (only_of_below hb _)⟩, h.rest, h.low, h.ha, h.hab, h.hb, h.hn⟩
theorem PdS.done (h : PdS w base g n cap d0 a b a' b' d wr) (k : RowU wr base g n cap d a' b' d' w') (hs : Srtd d' a' b') : ∃ d', RowU w base g n cap d0 a b d' w' ∧ Srtd d' a b :=
  ⟨d', (h.step k).row, (h.step k).rest.done hs⟩
theorem PdS.len (h : PdS w base g n cap d0 a b a' b' d wr) : d.length = n := h.row.len
theorem PdS.bn (h : PdS w base g n cap d0 a b a' b' d wr) : b' ≤ n := Nat.le_trans h.hb h.hn
theorem PdS.low' (h : PdS w base g n cap d0 a b a' b' d wr) : Low d a' b' := h.rest.low h.low h.ha h.hb

/-- Behind a partition into like ones and greater. -/
theorem PdS.equal {i y : Nat} (h : PdS w base g n cap d0 a b a' b' d wr) (k : RowU wr base g n cap d a' b' d' w') (h0 : 0 < a') (hai : a' < i) (hib : i ≤ b') (hle : ele d y ≤ ele d (a' - 1)) (hlo : ∀ k, a' ≤ k → k < i → ele d' k ≤ ele d y) :
    PdS w base g n cap d0 a b i b' d' w' := by
  have hs := h.step k
  refine ⟨hs.row, hs.rest.equal (pv := ele d y) (fun t t1 t2 => ?_) hlo, hs.low, by have := h.ha; omega, hib, h.hb, h.hn⟩
  have e := hs.low' t h0 t1 t2
  rw [k.seg.out (a' - 1) (.inl (by omega))] at e
  omega

/-- Behind a partition and the sort of its left part. -/
theorem PdS.left {m : Nat} {d'' : List Int} {w'' : World} (h : PdS w base g n cap d0 a b a' b' d wr) (k : RowU wr base g n cap d a' b' d' w') (ham : a' ≤ m) (hmb : m < b') (hlo : ∀ k, a' ≤ k → k < m → ele d' k ≤ ele d' m) (hhi : ∀ k, m < k → k < b' → ele d' m ≤ ele d' k)
    (k2 : RowU w' base g n cap d' a' m d'' w'') (hs : Srtd d'' a' m) : PdS w base g n cap d0 a b (m + 1) b' d'' w'' := by
  have h1 := h.step k
  have hl1 := h1.len
  have hbn := h.bn
  have hk2 : RowU w' base g n cap d' a' b' d'' w'' := ⟨k2.own, k2.seg.mono (Nat.le_refl _) (by omega), k2.grown⟩
  have h2 := h1.step hk2
  have hm : ele d'' m = ele d' m := k2.seg.out m (.inr (Nat.le_refl _))
  refine ⟨h2.row, h2.rest.left hs (fun t t1 t2 => ?_) (fun t t1 t2 => ?_), h2.low, by have := h.ha; omega, by omega, h.hb, h.hn⟩
  · rw [hm]; exact k2.seg.all (by omega) (p := fun x => x ≤ ele d' m) hlo t t1 t2
  · rw [hm, k2.seg.out t (.inr (by omega))]; exact hhi t t1 t2

/-- Behind a partition and the sort of its right part. -/
theorem PdS.right {m : Nat} {d'' : List Int} {w'' : World} (h : PdS w base g n cap d0 a b a' b' d wr) (k : RowU wr base g n cap d a' b' d' w') (ham : a' ≤ m) (hmb : m < b') (hlo : ∀ k, a' ≤ k → k < m → ele d' k ≤ ele d' m) (hhi : ∀ k, m < k → k < b' → ele d' m ≤ ele d' k)
    (k2 : RowU w' base g n cap d' (m + 1) b' d'' w'') (hs : Srtd d'' (m + 1) b') : PdS w base g n cap d0 a b a' m d'' w'' := by
  have h1 := h.step k
  have hl1 := h1.len
  have hbn := h.bn
  have hk2 : RowU w' base g n cap d' a' b' d'' w'' := ⟨k2.own, k2.seg.mono (by omega) (Nat.le_refl _), k2.grown⟩
  have h2 := h1.step hk2
  have hm : ele d'' m = ele d' m := k2.seg.out m (.inl (by omega))
  refine ⟨h2.row, h2.rest.right hs (fun t t1 t2 => ?_) (fun t t1 t2 => ?_), h2.low, h.ha, ham, by have := h.hb; omega, h.hn⟩
  · rw [hm, k2.seg.out t (.inl (by omega))]; exact hlo t t1 t2
  · rw [hm]; exact k2.seg.all (by omega) (p := fun x => ele d' m ≤ x) (fun j j1 j2 => hhi j (by omega) j2) t (by omega) t2
end

def PdU (w : World) (base g n cap : Nat) (d0 : List Int) (a b : Nat) (v1 v2 v3 v8 v9 : Value) (wr : World) : Prop :=
  ∃ (a' b' l : Nat) (d : List Int) (c8 c9 : Bool), v1 = .int .i64 a' ∧ v2 = .int .i64 b' ∧ v3 = .int .i64 l ∧ v8 = .bool c8 ∧ v9 = .bool c9 ∧ l ≤ 64 ∧ PdS w base g n cap d0 a b a' b' d wr

set_option maxRecDepth 100000 in
set_option maxHeartbeats 16000000 in
theorem pdq_u (base g n cap : Nat) (hsz : n ≤ 255) (m0 : Nat) : ∀ (off a b l : Nat) (d : List Int) (w : World), off = 0 → b - a ≤ m0 → RowW w base g n cap d → a ≤ b → b ≤ n → Low d a b → l ≤ 64 →
    Calls Try.prog 25 #[.slice (some ⟨g, off, none⟩) n cap, .int .i64 a, .int .i64 b, .int .i64 l] w (PdqIs w base g n cap a b d) := by
  induction m0 using Nat.strongRecOn with
  | _ m0 ih =>
  intro off a b l d w hoff hm hw hab hb hlow hl
  have IH := Lib.hid ih
  have HO := Lib.hid hoff
  have HM := Lib.hid hm
  have HL := Lib.hid hl
  have HP0 := Lib.hid (show PdS w base g n cap d a b a b d w from ⟨RowU.start hw a b, Rest.start d a b, hlow, Nat.le_refl _, hab, Nat.le_refl _, hb⟩)
  have hb255 : b ≤ 255 := by omega
  clear ih hoff hw hlow hl hm
  go_enter Try.func25, Try.ntmps25
  go_wp2_with fail
  go_loopw [1, 2, 3, 8, 9] (PdU w base g n cap d a b) (fun v1 v2 _ _ _ _ => cnt v2 - cnt v1)
  case atStart => exact ⟨a, b, l, d, true, true, rfl, rfl, rfl, rfl, rfl, HL.out, HP0.out⟩
  case round =>
    obtain ⟨a', b', l, dk, c8, c9, rfl, rfl, rfl, rfl, rfl, hl, hp⟩ := hrel
    have HP := Lib.hid hp
    have hb' : b' ≤ 255 := by have := hp.bn; omega
    have hab' : a' ≤ b' := hp.hab
    clear hp
    by_cases h12 : b' ≤ a' + 12
    · have h12' : decide ((b' : Int) - (a' : Int) ≤ 12) = true := by simp; omega
      have C := Lib.hid (insert_u base g off n cap a' b' HO.out dk wr HP.out.row.own hab' HP.out.bn (by omega))
      go_wp2_with fail
      refine C.out.mono ?_
      rintro e w5 ⟨rfl, d5, hr5, hs5⟩
      have HF := Lib.hid (HP.out.done hr5 hs5)
      clear hr5 hs5
      go_wp2_with fail
      refine bodyPost_ret (results_none (by kernel_rfl) _ _ _) rfl ?_
      exact ⟨rfl, HF.out⟩
    · have h12' : decide ((b' : Int) - (a' : Int) ≤ 12) = false := by simp; omega
      obtain ⟨L, hL⟩ : ∃ L, b' = a' + L := ⟨b' - a', by omega⟩
      have HLL := Lib.hid hL
      have hL12 : 12 < L := by omega
      clear hL
      by_cases hl0 : l = 0
      · subst hl0
        have C := Lib.hid (heap_u off base g n cap a' b' L dk wr HO.out HP.out.row.own HLL.out HP.out.bn hsz (by have := HLL.out; omega))
        go_wp2_with fail
        refine C.out.mono ?_
        rintro e w5 ⟨rfl, d5, hr5, hs5⟩
        have HF := Lib.hid (HP.out.done hr5 hs5)
        clear hr5 hs5
        go_wp2_with fail
        refine bodyPost_ret (results_none (by kernel_rfl) _ _ _) rfl ?_
        exact ⟨rfl, HF.out⟩
      · have hl0' : ((l : Int) == 0) = false := by rw [beq_eq_false_iff_ne]; omega
        cases c8
        · have C := Lib.hid (break_u off base g n cap a' b' L (L / 4) dk wr HO.out HP.out.row.own HLL.out rfl HP.out.bn hsz)
          go_wp2_with fail
          refine C.out.mono ?_
          rintro e w5 ⟨rfl, d5, hr5⟩
          have HP5 := Lib.hid (HP.out.step hr5)
          clear hr5 C
          obtain ⟨k, rfl⟩ : ∃ k, l = k + 1 := ⟨l - 1, by omega⟩
          have hk64 : k ≤ 64 := by omega
          have CC := Lib.hid (choose_u off a' b' L (L / 4) HO.out HP5.out.row.own HLL.out (by omega) rfl HP5.out.bn (by omega))
          go_wp2_with fail
          refine CC.out.mono ?_
          rintro e w6 ⟨⟨x, h, rfl, hx, hh⟩, hbl⟩
          have HP6 := Lib.hid (HP5.out.quiet hbl)
          have HX := Lib.hid hx
          have hx255 : x < 255 := by omega
          clear hbl hx CC
          by_cases h2 : h = 2
          · subst h2
            have CR := Lib.hid (reverse_u base g off n cap a' b' HO.out _ w6 HP6.out.row.own HP6.out.hab HP6.out.bn (by omega))
            go_wp2_with fail
            refine CR.out.mono ?_
            rintro e w7 ⟨rfl, d7, hr7⟩
            have HP7 := Lib.hid (HP6.out.step hr7)
            clear hr7 CR
            go_wp2_with fail
            obtain ⟨y, hy0⟩ : ∃ y, y = (b' - 1) - (x - a') := ⟨_, rfl⟩
            rw [show ((b' : Int) - 1 - ((x : Int) - (a' : Int))) = (y : Int) by have := HX.out; omega]
            have hy : a' ≤ y ∧ y < b' := by have := HX.out; omega
            clear hy0
            obtain ⟨G, hG⟩ : ∃ G : Nat → Int, ∀ t, G t = ele d7 t := ⟨fun t => ele d7 t, fun _ => rfl⟩
            have hcw : ∀ t, t < n → (w7).cell? ⟨g, off + t, none⟩ = some (.int .u64 (G t)) := fun t ht => by rw [hG, HO.out, Nat.zero_add]; exact HP7.out.row.cell t ht
            have HG := Lib.hid hG
            have hyn : y < n := by have := HP7.out.bn; omega
            have HY := Lib.hid hy
            clear hG hy
            by_cases ha0 : 0 < a'
            · have ha0' : decide ((0 : Int) < (a' : Int)) = true := by simp; omega
              have ha1n : a' - 1 < n := by have := HP7.out.bn; omega
              have ha1 : 1 ≤ a' := ha0
              go_quiet (first | (go_at_call 33; refine Calls.quiet_of_same (less_u _ _ _)))
              go_wp2_with fail
              · have hl : ltU (G (a' - 1)) (G y) = false := by simpa using ‹(!ltU (G (a' - 1)) (G y)) = true›
                have hle : ele d7 y ≤ ele d7 (a' - 1) := by have := ltU_f hl; rwa [HG.out, HG.out] at this
                have HLE := Lib.hid hle
                have HP := Lib.hid (HP7.out.drewN nq)
                clear hl hle hcw HG
                refine (parteq_u off base g n cap a' b' y _ _ HO.out HP.out.row.own HY.out.1 HY.out.2 HP.out.bn hsz).mono ?_
                rintro e w8 ⟨i, d8, rfl, hr8, hai, hib, hlo, hhi⟩
                have HN := Lib.hid (HP.out.equal hr8 ha0 hai hib HLE.out hlo)
                have HAI := Lib.hid hai
                have HIB := Lib.hid hib
                clear hr8 hai hib hlo hhi
                go_wp2
                go_roundw
                case rel => exact ⟨i, b', k, d8, _, _, rfl, rfl, rfl, rfl, rfl, hk64, HN.out⟩
                case measure => simp [cnt]; have := HAI.out; have := HIB.out; omega
              · have HP := Lib.hid (HP7.out.drewN nq)
                clear hcw HG
                refine (part_u off base g n cap a' b' y _ _ HO.out HP.out.row.own HY.out.1 HY.out.2 HP.out.bn hsz).mono ?_
                rintro e w6 ⟨m, d6, c6, rfl, hr6, ham, hmb, hlo, hhi⟩
                have HPM := Lib.hid (show ∀ d'' w'', (RowU w6 base g n cap d6 a' m d'' w'' → Srtd d'' a' m → PdS w base g n cap d a b (m + 1) b' d'' w'') ∧ (RowU w6 base g n cap d6 (m + 1) b' d'' w'' → Srtd d'' (m + 1) b' → PdS w base g n cap d a b a' m d'' w'') from
                  fun d'' w'' => ⟨fun k2 hs => HP.out.left hr6 ham hmb hlo hhi k2 hs, fun k2 hs => HP.out.right hr6 ham hmb hlo hhi k2 hs⟩)
                have HIL := Lib.hid (IH.out (m - a') (by have := HP.out.ha; have := HP.out.hb; have := HM.out; omega) off a' m k d6 w6 HO.out (Nat.le_refl _) hr6.own ham (by have := HP.out.bn; omega) (fun t t0 t1 t2 => (HP.out.step hr6).low' t t0 t1 (by omega)) hk64)
                have HIR := Lib.hid (IH.out (b' - (m + 1)) (by have := HP.out.ha; have := HP.out.hb; have := HM.out; omega) off (m + 1) b' k d6 w6 HO.out (Nat.le_refl _) hr6.own (by omega) HP.out.bn (fun t t0 t1 t2 => hhi t (by omega) t2) hk64)
                have HAM := Lib.hid ham
                have HMB := Lib.hid hmb
                have hm255 : m < 255 := by have := HP.out.bn; omega
                clear hr6 ham hmb hlo hhi
                go_wp2_with fail
                · refine HIL.out.mono ?_
                  rintro e w7 ⟨rfl, d7, hr7, hs7⟩
                  have HN := Lib.hid ((HPM.out d7 w7).1 hr7 hs7)
                  clear hr7 hs7
                  go_wp2
                  go_roundw
                  case rel => exact ⟨m + 1, b', k, d7, _, _, by go_num, rfl, rfl, rfl, rfl, hk64, HN.out⟩
                  case measure => simp [cnt]; have := HAM.out; have := HMB.out; omega
                · rw [show ((m : Int) + 1) = ((m + 1 : Nat) : Int) by omega]
                  refine HIR.out.mono ?_
                  rintro e w7 ⟨rfl, d7, hr7, hs7⟩
                  have HN := Lib.hid ((HPM.out d7 w7).2 hr7 hs7)
                  clear hr7 hs7
                  go_wp2
                  go_roundw
                  case rel => exact ⟨a', m, k, d7, _, _, rfl, rfl, rfl, rfl, rfl, hk64, HN.out⟩
                  case measure => simp [cnt]; have := HAM.out; have := HMB.out; omega
            · have ha0' : decide ((0 : Int) < (a' : Int)) = false := by simp; omega
              go_quiet (first | (go_at_call 33; refine Calls.quiet_of_same (less_u _ _ _)))
              go_wp2_with fail
              have HP := Lib.hid (HP7.out.drewN nq)
              clear hcw HG
              refine (part_u off base g n cap a' b' y _ _ HO.out HP.out.row.own HY.out.1 HY.out.2 HP.out.bn hsz).mono ?_
              rintro e w6 ⟨m, d6, c6, rfl, hr6, ham, hmb, hlo, hhi⟩
              have HPM := Lib.hid (show ∀ d'' w'', (RowU w6 base g n cap d6 a' m d'' w'' → Srtd d'' a' m → PdS w base g n cap d a b (m + 1) b' d'' w'') ∧ (RowU w6 base g n cap d6 (m + 1) b' d'' w'' → Srtd d'' (m + 1) b' → PdS w base g n cap d a b a' m d'' w'') from
                fun d'' w'' => ⟨fun k2 hs => HP.out.left hr6 ham hmb hlo hhi k2 hs, fun k2 hs => HP.out.right hr6 ham hmb hlo hhi k2 hs⟩)
              have HIL := Lib.hid (IH.out (m - a') (by have := HP.out.ha; have := HP.out.hb; have := HM.out; omega) off a' m k d6 w6 HO.out (Nat.le_refl _) hr6.own ham (by have := HP.out.bn; omega) (fun t t0 t1 t2 => (HP.out.step hr6).low' t t0 t1 (by omega)) hk64)
              have HIR := Lib.hid (IH.out (b' - (m + 1)) (by have := HP.out.ha; have := HP.out.hb; have := HM.out; omega) off (m + 1) b' k d6 w6 HO.out (Nat.le_refl _) hr6.own (by omega) HP.out.bn (fun t t0 t1 t2 => hhi t (by omega) t2) hk64)
              have HAM := Lib.hid ham
              have HMB := Lib.hid hmb
              have hm255 : m < 255 := by have := HP.out.bn; omega
              clear hr6 ham hmb hlo hhi
              go_wp2_with fail
              · refine HIL.out.mono ?_
                rintro e w7 ⟨rfl, d7, hr7, hs7⟩
                have HN := Lib.hid ((HPM.out d7 w7).1 hr7 hs7)
                clear hr7 hs7
                go_wp2
                go_roundw
                case rel => exact ⟨m + 1, b', k, d7, _, _, by go_num, rfl, rfl, rfl, rfl, hk64, HN.out⟩
                case measure => simp [cnt]; have := HAM.out; have := HMB.out; omega
              · rw [show ((m : Int) + 1) = ((m + 1 : Nat) : Int) by omega]
                refine HIR.out.mono ?_
                rintro e w7 ⟨rfl, d7, hr7, hs7⟩
                have HN := Lib.hid ((HPM.out d7 w7).2 hr7 hs7)
                clear hr7 hs7
                go_wp2
                go_roundw
                case rel => exact ⟨a', m, k, d7, _, _, rfl, rfl, rfl, rfl, rfl, hk64, HN.out⟩
                case measure => simp [cnt]; have := HAM.out; have := HMB.out; omega
          · have h2' : ((h : Int) == 2) = false := by rw [beq_eq_false_iff_ne]; omega
            go_wp2_with fail
            have hy : a' ≤ x ∧ x < b' := HX.out
            obtain ⟨G, hG⟩ : ∃ G : Nat → Int, ∀ t, G t = ele d5 t := ⟨fun t => ele d5 t, fun _ => rfl⟩
            have hcw : ∀ t, t < n → (w6).cell? ⟨g, off + t, none⟩ = some (.int .u64 (G t)) := fun t ht => by rw [hG, HO.out, Nat.zero_add]; exact HP6.out.row.cell t ht
            have HG := Lib.hid hG
            have hyn : x < n := by have := HP6.out.bn; omega
            have HY := Lib.hid hy
            clear hG hy
            by_cases ha0 : 0 < a'
            · have ha0' : decide ((0 : Int) < (a' : Int)) = true := by simp; omega
              have ha1n : a' - 1 < n := by have := HP6.out.bn; omega
              have ha1 : 1 ≤ a' := ha0
              go_quiet (first | (go_at_call 33; refine Calls.quiet_of_same (less_u _ _ _)))
              go_wp2_with fail
              · have hl : ltU (G (a' - 1)) (G x) = false := by simpa using ‹(!ltU (G (a' - 1)) (G x)) = true›
                have hle : ele d5 x ≤ ele d5 (a' - 1) := by have := ltU_f hl; rwa [HG.out, HG.out] at this
                have HLE := Lib.hid hle
                have HP := Lib.hid (HP6.out.drewN nq)
                clear hl hle hcw HG
                refine (parteq_u off base g n cap a' b' x _ _ HO.out HP.out.row.own HY.out.1 HY.out.2 HP.out.bn hsz).mono ?_
                rintro e w8 ⟨i, d8, rfl, hr8, hai, hib, hlo, hhi⟩
                have HN := Lib.hid (HP.out.equal hr8 ha0 hai hib HLE.out hlo)
                have HAI := Lib.hid hai
                have HIB := Lib.hid hib
                clear hr8 hai hib hlo hhi
                go_wp2
                go_roundw
                case rel => exact ⟨i, b', k, d8, _, _, rfl, rfl, rfl, rfl, rfl, hk64, HN.out⟩
                case measure => simp [cnt]; have := HAI.out; have := HIB.out; omega
              · have HP := Lib.hid (HP6.out.drewN nq)
                clear hcw HG
                refine (part_u off base g n cap a' b' x _ _ HO.out HP.out.row.own HY.out.1 HY.out.2 HP.out.bn hsz).mono ?_
                rintro e w6 ⟨m, d6, c6, rfl, hr6, ham, hmb, hlo, hhi⟩
                have HPM := Lib.hid (show ∀ d'' w'', (RowU w6 base g n cap d6 a' m d'' w'' → Srtd d'' a' m → PdS w base g n cap d a b (m + 1) b' d'' w'') ∧ (RowU w6 base g n cap d6 (m + 1) b' d'' w'' → Srtd d'' (m + 1) b' → PdS w base g n cap d a b a' m d'' w'') from
                  fun d'' w'' => ⟨fun k2 hs => HP.out.left hr6 ham hmb hlo hhi k2 hs, fun k2 hs => HP.out.right hr6 ham hmb hlo hhi k2 hs⟩)
                have HIL := Lib.hid (IH.out (m - a') (by have := HP.out.ha; have := HP.out.hb; have := HM.out; omega) off a' m k d6 w6 HO.out (Nat.le_refl _) hr6.own ham (by have := HP.out.bn; omega) (fun t t0 t1 t2 => (HP.out.step hr6).low' t t0 t1 (by omega)) hk64)
                have HIR := Lib.hid (IH.out (b' - (m + 1)) (by have := HP.out.ha; have := HP.out.hb; have := HM.out; omega) off (m + 1) b' k d6 w6 HO.out (Nat.le_refl _) hr6.own (by omega) HP.out.bn (fun t t0 t1 t2 => hhi t (by omega) t2) hk64)
                have HAM := Lib.hid ham
                have HMB := Lib.hid hmb
                have hm255 : m < 255 := by have := HP.out.bn; omega
                clear hr6 ham hmb hlo hhi
                go_wp2_with fail
                · refine HIL.out.mono ?_
                  rintro e w7 ⟨rfl, d7, hr7, hs7⟩
                  have HN := Lib.hid ((HPM.out d7 w7).1 hr7 hs7)
                  clear hr7 hs7
                  go_wp2
                  go_roundw
                  case rel => exact ⟨m + 1, b', k, d7, _, _, by go_num, rfl, rfl, rfl, rfl, hk64, HN.out⟩
                  case measure => simp [cnt]; have := HAM.out; have := HMB.out; omega
                · rw [show ((m : Int) + 1) = ((m + 1 : Nat) : Int) by omega]
                  refine HIR.out.mono ?_
                  rintro e w7 ⟨rfl, d7, hr7, hs7⟩
                  have HN := Lib.hid ((HPM.out d7 w7).2 hr7 hs7)
                  clear hr7 hs7
                  go_wp2
                  go_roundw
                  case rel => exact ⟨a', m, k, d7, _, _, rfl, rfl, rfl, rfl, rfl, hk64, HN.out⟩
                  case measure => simp [cnt]; have := HAM.out; have := HMB.out; omega
            · have ha0' : decide ((0 : Int) < (a' : Int)) = false := by simp; omega
              go_quiet (first | (go_at_call 33; refine Calls.quiet_of_same (less_u _ _ _)))
              go_wp2_with fail
              have HP := Lib.hid (HP6.out.drewN nq)
              clear hcw HG
              refine (part_u off base g n cap a' b' x _ _ HO.out HP.out.row.own HY.out.1 HY.out.2 HP.out.bn hsz).mono ?_
              rintro e w6 ⟨m, d6, c6, rfl, hr6, ham, hmb, hlo, hhi⟩
              have HPM := Lib.hid (show ∀ d'' w'', (RowU w6 base g n cap d6 a' m d'' w'' → Srtd d'' a' m → PdS w base g n cap d a b (m + 1) b' d'' w'') ∧ (RowU w6 base g n cap d6 (m + 1) b' d'' w'' → Srtd d'' (m + 1) b' → PdS w base g n cap d a b a' m d'' w'') from
                fun d'' w'' => ⟨fun k2 hs => HP.out.left hr6 ham hmb hlo hhi k2 hs, fun k2 hs => HP.out.right hr6 ham hmb hlo hhi k2 hs⟩)
              have HIL := Lib.hid (IH.out (m - a') (by have := HP.out.ha; have := HP.out.hb; have := HM.out; omega) off a' m k d6 w6 HO.out (Nat.le_refl _) hr6.own ham (by have := HP.out.bn; omega) (fun t t0 t1 t2 => (HP.out.step hr6).low' t t0 t1 (by omega)) hk64)
              have HIR := Lib.hid (IH.out (b' - (m + 1)) (by have := HP.out.ha; have := HP.out.hb; have := HM.out; omega) off (m + 1) b' k d6 w6 HO.out (Nat.le_refl _) hr6.own (by omega) HP.out.bn (fun t t0 t1 t2 => hhi t (by omega) t2) hk64)
              have HAM := Lib.hid ham
              have HMB := Lib.hid hmb
              have hm255 : m < 255 := by have := HP.out.bn; omega
              clear hr6 ham hmb hlo hhi
              go_wp2_with fail
              · refine HIL.out.mono ?_
                rintro e w7 ⟨rfl, d7, hr7, hs7⟩
                have HN := Lib.hid ((HPM.out d7 w7).1 hr7 hs7)
                clear hr7 hs7
                go_wp2
                go_roundw
                case rel => exact ⟨m + 1, b', k, d7, _, _, by go_num, rfl, rfl, rfl, rfl, hk64, HN.out⟩
                case measure => simp [cnt]; have := HAM.out; have := HMB.out; omega
              · rw [show ((m : Int) + 1) = ((m + 1 : Nat) : Int) by omega]
                refine HIR.out.mono ?_
                rintro e w7 ⟨rfl, d7, hr7, hs7⟩
                have HN := Lib.hid ((HPM.out d7 w7).2 hr7 hs7)
                clear hr7 hs7
                go_wp2
                go_roundw
                case rel => exact ⟨a', m, k, d7, _, _, rfl, rfl, rfl, rfl, rfl, hk64, HN.out⟩
                case measure => simp [cnt]; have := HAM.out; have := HMB.out; omega
        · have HP5 := HP
          have CC := Lib.hid (choose_u off a' b' L (L / 4) HO.out HP5.out.row.own HLL.out (by omega) rfl HP5.out.bn (by omega))
          go_wp2_with fail
          refine CC.out.mono ?_
          rintro e w6 ⟨⟨x, h, rfl, hx, hh⟩, hbl⟩
          have HP6 := Lib.hid (HP5.out.quiet hbl)
          have HX := Lib.hid hx
          have hx255 : x < 255 := by omega
          clear hbl hx CC
          by_cases h2 : h = 2
          · subst h2
            have CR := Lib.hid (reverse_u base g off n cap a' b' HO.out _ w6 HP6.out.row.own HP6.out.hab HP6.out.bn (by omega))
            go_wp2_with fail
            refine CR.out.mono ?_
            rintro e w7 ⟨rfl, d7, hr7⟩
            have HP7 := Lib.hid (HP6.out.step hr7)
            clear hr7 CR
            cases c9
            · go_wp2_with fail
              obtain ⟨y, hy0⟩ : ∃ y, y = (b' - 1) - (x - a') := ⟨_, rfl⟩
              rw [show ((b' : Int) - 1 - ((x : Int) - (a' : Int))) = (y : Int) by have := HX.out; omega]
              have hy : a' ≤ y ∧ y < b' := by have := HX.out; omega
              clear hy0
              obtain ⟨G, hG⟩ : ∃ G : Nat → Int, ∀ t, G t = ele d7 t := ⟨fun t => ele d7 t, fun _ => rfl⟩
              have hcw : ∀ t, t < n → (w7).cell? ⟨g, off + t, none⟩ = some (.int .u64 (G t)) := fun t ht => by rw [hG, HO.out, Nat.zero_add]; exact HP7.out.row.cell t ht
              have HG := Lib.hid hG
              have hyn : y < n := by have := HP7.out.bn; omega
              have HY := Lib.hid hy
              clear hG hy
              by_cases ha0 : 0 < a'
              · have ha0' : decide ((0 : Int) < (a' : Int)) = true := by simp; omega
                have ha1n : a' - 1 < n := by have := HP7.out.bn; omega
                have ha1 : 1 ≤ a' := ha0
                go_quiet (first | (go_at_call 33; refine Calls.quiet_of_same (less_u _ _ _)))
                go_wp2_with fail
                · have hl : ltU (G (a' - 1)) (G y) = false := by simpa using ‹(!ltU (G (a' - 1)) (G y)) = true›
                  have hle : ele d7 y ≤ ele d7 (a' - 1) := by have := ltU_f hl; rwa [HG.out, HG.out] at this
                  have HLE := Lib.hid hle
                  have HP := Lib.hid (HP7.out.drewN nq)
                  clear hl hle hcw HG
                  refine (parteq_u off base g n cap a' b' y _ _ HO.out HP.out.row.own HY.out.1 HY.out.2 HP.out.bn hsz).mono ?_
                  rintro e w8 ⟨i, d8, rfl, hr8, hai, hib, hlo, hhi⟩
                  have HN := Lib.hid (HP.out.equal hr8 ha0 hai hib HLE.out hlo)
                  have HAI := Lib.hid hai
                  have HIB := Lib.hid hib
                  clear hr8 hai hib hlo hhi
                  go_wp2
                  go_roundw
                  case rel => exact ⟨i, b', l, d8, _, _, rfl, rfl, rfl, rfl, rfl, hl, HN.out⟩
                  case measure => simp [cnt]; have := HAI.out; have := HIB.out; omega
                · have HP := Lib.hid (HP7.out.drewN nq)
                  clear hcw HG
                  refine (part_u off base g n cap a' b' y _ _ HO.out HP.out.row.own HY.out.1 HY.out.2 HP.out.bn hsz).mono ?_
                  rintro e w6 ⟨m, d6, c6, rfl, hr6, ham, hmb, hlo, hhi⟩
                  have HPM := Lib.hid (show ∀ d'' w'', (RowU w6 base g n cap d6 a' m d'' w'' → Srtd d'' a' m → PdS w base g n cap d a b (m + 1) b' d'' w'') ∧ (RowU w6 base g n cap d6 (m + 1) b' d'' w'' → Srtd d'' (m + 1) b' → PdS w base g n cap d a b a' m d'' w'') from
                    fun d'' w'' => ⟨fun k2 hs => HP.out.left hr6 ham hmb hlo hhi k2 hs, fun k2 hs => HP.out.right hr6 ham hmb hlo hhi k2 hs⟩)
                  have HIL := Lib.hid (IH.out (m - a') (by have := HP.out.ha; have := HP.out.hb; have := HM.out; omega) off a' m l d6 w6 HO.out (Nat.le_refl _) hr6.own ham (by have := HP.out.bn; omega) (fun t t0 t1 t2 => (HP.out.step hr6).low' t t0 t1 (by omega)) hl)
                  have HIR := Lib.hid (IH.out (b' - (m + 1)) (by have := HP.out.ha; have := HP.out.hb; have := HM.out; omega) off (m + 1) b' l d6 w6 HO.out (Nat.le_refl _) hr6.own (by omega) HP.out.bn (fun t t0 t1 t2 => hhi t (by omega) t2) hl)
                  have HAM := Lib.hid ham
                  have HMB := Lib.hid hmb
                  have hm255 : m < 255 := by have := HP.out.bn; omega
                  clear hr6 ham hmb hlo hhi
                  go_wp2_with fail
                  · refine HIL.out.mono ?_
                    rintro e w7 ⟨rfl, d7, hr7, hs7⟩
                    have HN := Lib.hid ((HPM.out d7 w7).1 hr7 hs7)
                    clear hr7 hs7
                    go_wp2
                    go_roundw
                    case rel => exact ⟨m + 1, b', l, d7, _, _, by go_num, rfl, rfl, rfl, rfl, hl, HN.out⟩
                    case measure => simp [cnt]; have := HAM.out; have := HMB.out; omega
                  · rw [show ((m : Int) + 1) = ((m + 1 : Nat) : Int) by omega]
                    refine HIR.out.mono ?_
                    rintro e w7 ⟨rfl, d7, hr7, hs7⟩
                    have HN := Lib.hid ((HPM.out d7 w7).2 hr7 hs7)
                    clear hr7 hs7
                    go_wp2
                    go_roundw
                    case rel => exact ⟨a', m, l, d7, _, _, rfl, rfl, rfl, rfl, rfl, hl, HN.out⟩
                    case measure => simp [cnt]; have := HAM.out; have := HMB.out; omega
              · have ha0' : decide ((0 : Int) < (a' : Int)) = false := by simp; omega
                go_quiet (first | (go_at_call 33; refine Calls.quiet_of_same (less_u _ _ _)))
                go_wp2_with fail
                have HP := Lib.hid (HP7.out.drewN nq)
                clear hcw HG
                refine (part_u off base g n cap a' b' y _ _ HO.out HP.out.row.own HY.out.1 HY.out.2 HP.out.bn hsz).mono ?_
                rintro e w6 ⟨m, d6, c6, rfl, hr6, ham, hmb, hlo, hhi⟩
                have HPM := Lib.hid (show ∀ d'' w'', (RowU w6 base g n cap d6 a' m d'' w'' → Srtd d'' a' m → PdS w base g n cap d a b (m + 1) b' d'' w'') ∧ (RowU w6 base g n cap d6 (m + 1) b' d'' w'' → Srtd d'' (m + 1) b' → PdS w base g n cap d a b a' m d'' w'') from
                  fun d'' w'' => ⟨fun k2 hs => HP.out.left hr6 ham hmb hlo hhi k2 hs, fun k2 hs => HP.out.right hr6 ham hmb hlo hhi k2 hs⟩)
                have HIL := Lib.hid (IH.out (m - a') (by have := HP.out.ha; have := HP.out.hb; have := HM.out; omega) off a' m l d6 w6 HO.out (Nat.le_refl _) hr6.own ham (by have := HP.out.bn; omega) (fun t t0 t1 t2 => (HP.out.step hr6).low' t t0 t1 (by omega)) hl)
                have HIR := Lib.hid (IH.out (b' - (m + 1)) (by have := HP.out.ha; have := HP.out.hb; have := HM.out; omega) off (m + 1) b' l d6 w6 HO.out (Nat.le_refl _) hr6.own (by omega) HP.out.bn (fun t t0 t1 t2 => hhi t (by omega) t2) hl)
                have HAM := Lib.hid ham
                have HMB := Lib.hid hmb
                have hm255 : m < 255 := by have := HP.out.bn; omega
                clear hr6 ham hmb hlo hhi
                go_wp2_with fail
                · refine HIL.out.mono ?_
                  rintro e w7 ⟨rfl, d7, hr7, hs7⟩
                  have HN := Lib.hid ((HPM.out d7 w7).1 hr7 hs7)
                  clear hr7 hs7
                  go_wp2
                  go_roundw
                  case rel => exact ⟨m + 1, b', l, d7, _, _, by go_num, rfl, rfl, rfl, rfl, hl, HN.out⟩
                  case measure => simp [cnt]; have := HAM.out; have := HMB.out; omega
                · rw [show ((m : Int) + 1) = ((m + 1 : Nat) : Int) by omega]
                  refine HIR.out.mono ?_
                  rintro e w7 ⟨rfl, d7, hr7, hs7⟩
                  have HN := Lib.hid ((HPM.out d7 w7).2 hr7 hs7)
                  clear hr7 hs7
                  go_wp2
                  go_roundw
                  case rel => exact ⟨a', m, l, d7, _, _, rfl, rfl, rfl, rfl, rfl, hl, HN.out⟩
                  case measure => simp [cnt]; have := HAM.out; have := HMB.out; omega
            · have CP := Lib.hid (partial_u off base g n cap a' b' d7 w7 HO.out HP7.out.row.own (by omega) HP7.out.bn hsz HP7.out.low')
              go_wp2_with fail
              obtain ⟨y, hy0⟩ : ∃ y, y = (b' - 1) - (x - a') := ⟨_, rfl⟩
              rw [show ((b' : Int) - 1 - ((x : Int) - (a' : Int))) = (y : Int) by have := HX.out; omega]
              have hy : a' ≤ y ∧ y < b' := by have := HX.out; omega
              clear hy0
              refine CP.out.mono ?_
              rintro e w9 ⟨c, d9, rfl, hr9, hs9⟩
              clear CP
              cases c
              · have HP9 := Lib.hid (HP7.out.step hr9)
                clear hr9 hs9
                go_wp2_with fail
                obtain ⟨G, hG⟩ : ∃ G : Nat → Int, ∀ t, G t = ele d9 t := ⟨fun t => ele d9 t, fun _ => rfl⟩
                have hcw : ∀ t, t < n → (w9).cell? ⟨g, off + t, none⟩ = some (.int .u64 (G t)) := fun t ht => by rw [hG, HO.out, Nat.zero_add]; exact HP9.out.row.cell t ht
                have HG := Lib.hid hG
                have hyn : y < n := by have := HP9.out.bn; omega
                have HY := Lib.hid hy
                clear hG hy
                by_cases ha0 : 0 < a'
                · have ha0' : decide ((0 : Int) < (a' : Int)) = true := by simp; omega
                  have ha1n : a' - 1 < n := by have := HP9.out.bn; omega
                  have ha1 : 1 ≤ a' := ha0
                  go_quiet (first | (go_at_call 33; refine Calls.quiet_of_same (less_u _ _ _)))
                  go_wp2_with fail
                  · have hl : ltU (G (a' - 1)) (G y) = false := by simpa using ‹(!ltU (G (a' - 1)) (G y)) = true›
                    have hle : ele d9 y ≤ ele d9 (a' - 1) := by have := ltU_f hl; rwa [HG.out, HG.out] at this
                    have HLE := Lib.hid hle
                    have HP := Lib.hid (HP9.out.drewN nq)
                    clear hl hle hcw HG
                    refine (parteq_u off base g n cap a' b' y _ _ HO.out HP.out.row.own HY.out.1 HY.out.2 HP.out.bn hsz).mono ?_
                    rintro e w8 ⟨i, d8, rfl, hr8, hai, hib, hlo, hhi⟩
                    have HN := Lib.hid (HP.out.equal hr8 ha0 hai hib HLE.out hlo)
                    have HAI := Lib.hid hai
                    have HIB := Lib.hid hib
                    clear hr8 hai hib hlo hhi
                    go_wp2
                    go_roundw
                    case rel => exact ⟨i, b', l, d8, _, _, rfl, rfl, rfl, rfl, rfl, hl, HN.out⟩
                    case measure => simp [cnt]; have := HAI.out; have := HIB.out; omega
                  · have HP := Lib.hid (HP9.out.drewN nq)
                    clear hcw HG
                    refine (part_u off base g n cap a' b' y _ _ HO.out HP.out.row.own HY.out.1 HY.out.2 HP.out.bn hsz).mono ?_
                    rintro e w6 ⟨m, d6, c6, rfl, hr6, ham, hmb, hlo, hhi⟩
                    have HPM := Lib.hid (show ∀ d'' w'', (RowU w6 base g n cap d6 a' m d'' w'' → Srtd d'' a' m → PdS w base g n cap d a b (m + 1) b' d'' w'') ∧ (RowU w6 base g n cap d6 (m + 1) b' d'' w'' → Srtd d'' (m + 1) b' → PdS w base g n cap d a b a' m d'' w'') from
                      fun d'' w'' => ⟨fun k2 hs => HP.out.left hr6 ham hmb hlo hhi k2 hs, fun k2 hs => HP.out.right hr6 ham hmb hlo hhi k2 hs⟩)
                    have HIL := Lib.hid (IH.out (m - a') (by have := HP.out.ha; have := HP.out.hb; have := HM.out; omega) off a' m l d6 w6 HO.out (Nat.le_refl _) hr6.own ham (by have := HP.out.bn; omega) (fun t t0 t1 t2 => (HP.out.step hr6).low' t t0 t1 (by omega)) hl)
                    have HIR := Lib.hid (IH.out (b' - (m + 1)) (by have := HP.out.ha; have := HP.out.hb; have := HM.out; omega) off (m + 1) b' l d6 w6 HO.out (Nat.le_refl _) hr6.own (by omega) HP.out.bn (fun t t0 t1 t2 => hhi t (by omega) t2) hl)
                    have HAM := Lib.hid ham
                    have HMB := Lib.hid hmb
                    have hm255 : m < 255 := by have := HP.out.bn; omega
                    clear hr6 ham hmb hlo hhi
                    go_wp2_with fail
                    · refine HIL.out.mono ?_
                      rintro e w7 ⟨rfl, d7, hr7, hs7⟩
                      have HN := Lib.hid ((HPM.out d7 w7).1 hr7 hs7)
                      clear hr7 hs7
                      go_wp2
                      go_roundw
                      case rel => exact ⟨m + 1, b', l, d7, _, _, by go_num, rfl, rfl, rfl, rfl, hl, HN.out⟩
                      case measure => simp [cnt]; have := HAM.out; have := HMB.out; omega
                    · rw [show ((m : Int) + 1) = ((m + 1 : Nat) : Int) by omega]
                      refine HIR.out.mono ?_
                      rintro e w7 ⟨rfl, d7, hr7, hs7⟩
                      have HN := Lib.hid ((HPM.out d7 w7).2 hr7 hs7)
                      clear hr7 hs7
                      go_wp2
                      go_roundw
                      case rel => exact ⟨a', m, l, d7, _, _, rfl, rfl, rfl, rfl, rfl, hl, HN.out⟩
                      case measure => simp [cnt]; have := HAM.out; have := HMB.out; omega
                · have ha0' : decide ((0 : Int) < (a' : Int)) = false := by simp; omega
                  go_quiet (first | (go_at_call 33; refine Calls.quiet_of_same (less_u _ _ _)))
                  go_wp2_with fail
                  have HP := Lib.hid (HP9.out.drewN nq)
                  clear hcw HG
                  refine (part_u off base g n cap a' b' y _ _ HO.out HP.out.row.own HY.out.1 HY.out.2 HP.out.bn hsz).mono ?_
                  rintro e w6 ⟨m, d6, c6, rfl, hr6, ham, hmb, hlo, hhi⟩
                  have HPM := Lib.hid (show ∀ d'' w'', (RowU w6 base g n cap d6 a' m d'' w'' → Srtd d'' a' m → PdS w base g n cap d a b (m + 1) b' d'' w'') ∧ (RowU w6 base g n cap d6 (m + 1) b' d'' w'' → Srtd d'' (m + 1) b' → PdS w base g n cap d a b a' m d'' w'') from
                    fun d'' w'' => ⟨fun k2 hs => HP.out.left hr6 ham hmb hlo hhi k2 hs, fun k2 hs => HP.out.right hr6 ham hmb hlo hhi k2 hs⟩)
                  have HIL := Lib.hid (IH.out (m - a') (by have := HP.out.ha; have := HP.out.hb; have := HM.out; omega) off a' m l d6 w6 HO.out (Nat.le_refl _) hr6.own ham (by have := HP.out.bn; omega) (fun t t0 t1 t2 => (HP.out.step hr6).low' t t0 t1 (by omega)) hl)
                  have HIR := Lib.hid (IH.out (b' - (m + 1)) (by have := HP.out.ha; have := HP.out.hb; have := HM.out; omega) off (m + 1) b' l d6 w6 HO.out (Nat.le_refl _) hr6.own (by omega) HP.out.bn (fun t t0 t1 t2 => hhi t (by omega) t2) hl)
                  have HAM := Lib.hid ham
                  have HMB := Lib.hid hmb
                  have hm255 : m < 255 := by have := HP.out.bn; omega
                  clear hr6 ham hmb hlo hhi
                  go_wp2_with fail
                  · refine HIL.out.mono ?_
                    rintro e w7 ⟨rfl, d7, hr7, hs7⟩
                    have HN := Lib.hid ((HPM.out d7 w7).1 hr7 hs7)
                    clear hr7 hs7
                    go_wp2
                    go_roundw
                    case rel => exact ⟨m + 1, b', l, d7, _, _, by go_num, rfl, rfl, rfl, rfl, hl, HN.out⟩
                    case measure => simp [cnt]; have := HAM.out; have := HMB.out; omega
                  · rw [show ((m : Int) + 1) = ((m + 1 : Nat) : Int) by omega]
                    refine HIR.out.mono ?_
                    rintro e w7 ⟨rfl, d7, hr7, hs7⟩
                    have HN := Lib.hid ((HPM.out d7 w7).2 hr7 hs7)
                    clear hr7 hs7
                    go_wp2
                    go_roundw
                    case rel => exact ⟨a', m, l, d7, _, _, rfl, rfl, rfl, rfl, rfl, hl, HN.out⟩
                    case measure => simp [cnt]; have := HAM.out; have := HMB.out; omega
              · have HF := Lib.hid (HP7.out.done hr9 (hs9 rfl))
                clear hr9 hs9
                go_wp2_with fail
                refine bodyPost_ret (results_none (by kernel_rfl) _ _ _) rfl ?_
                exact ⟨rfl, HF.out⟩
          · have h2' : ((h : Int) == 2) = false := by rw [beq_eq_false_iff_ne]; omega
            cases c9
            · go_wp2_with fail
              have hy : a' ≤ x ∧ x < b' := HX.out
              obtain ⟨G, hG⟩ : ∃ G : Nat → Int, ∀ t, G t = ele dk t := ⟨fun t => ele dk t, fun _ => rfl⟩
              have hcw : ∀ t, t < n → (w6).cell? ⟨g, off + t, none⟩ = some (.int .u64 (G t)) := fun t ht => by rw [hG, HO.out, Nat.zero_add]; exact HP6.out.row.cell t ht
              have HG := Lib.hid hG
              have hyn : x < n := by have := HP6.out.bn; omega
              have HY := Lib.hid hy
              clear hG hy
              by_cases ha0 : 0 < a'
              · have ha0' : decide ((0 : Int) < (a' : Int)) = true := by simp; omega
                have ha1n : a' - 1 < n := by have := HP6.out.bn; omega
                have ha1 : 1 ≤ a' := ha0
                go_quiet (first | (go_at_call 33; refine Calls.quiet_of_same (less_u _ _ _)))
                go_wp2_with fail
                · have hl : ltU (G (a' - 1)) (G x) = false := by simpa using ‹(!ltU (G (a' - 1)) (G x)) = true›
                  have hle : ele dk x ≤ ele dk (a' - 1) := by have := ltU_f hl; rwa [HG.out, HG.out] at this
                  have HLE := Lib.hid hle
                  have HP := Lib.hid (HP6.out.drewN nq)
                  clear hl hle hcw HG
                  refine (parteq_u off base g n cap a' b' x _ _ HO.out HP.out.row.own HY.out.1 HY.out.2 HP.out.bn hsz).mono ?_
                  rintro e w8 ⟨i, d8, rfl, hr8, hai, hib, hlo, hhi⟩
                  have HN := Lib.hid (HP.out.equal hr8 ha0 hai hib HLE.out hlo)
                  have HAI := Lib.hid hai
                  have HIB := Lib.hid hib
                  clear hr8 hai hib hlo hhi
                  go_wp2
                  go_roundw
                  case rel => exact ⟨i, b', l, d8, _, _, rfl, rfl, rfl, rfl, rfl, hl, HN.out⟩
                  case measure => simp [cnt]; have := HAI.out; have := HIB.out; omega
                · have HP := Lib.hid (HP6.out.drewN nq)
                  clear hcw HG
                  refine (part_u off base g n cap a' b' x _ _ HO.out HP.out.row.own HY.out.1 HY.out.2 HP.out.bn hsz).mono ?_
                  rintro e w6 ⟨m, d6, c6, rfl, hr6, ham, hmb, hlo, hhi⟩
                  have HPM := Lib.hid (show ∀ d'' w'', (RowU w6 base g n cap d6 a' m d'' w'' → Srtd d'' a' m → PdS w base g n cap d a b (m + 1) b' d'' w'') ∧ (RowU w6 base g n cap d6 (m + 1) b' d'' w'' → Srtd d'' (m + 1) b' → PdS w base g n cap d a b a' m d'' w'') from
                    fun d'' w'' => ⟨fun k2 hs => HP.out.left hr6 ham hmb hlo hhi k2 hs, fun k2 hs => HP.out.right hr6 ham hmb hlo hhi k2 hs⟩)
                  have HIL := Lib.hid (IH.out (m - a') (by have := HP.out.ha; have := HP.out.hb; have := HM.out; omega) off a' m l d6 w6 HO.out (Nat.le_refl _) hr6.own ham (by have := HP.out.bn; omega) (fun t t0 t1 t2 => (HP.out.step hr6).low' t t0 t1 (by omega)) hl)
                  have HIR := Lib.hid (IH.out (b' - (m + 1)) (by have := HP.out.ha; have := HP.out.hb; have := HM.out; omega) off (m + 1) b' l d6 w6 HO.out (Nat.le_refl _) hr6.own (by omega) HP.out.bn (fun t t0 t1 t2 => hhi t (by omega) t2) hl)
                  have HAM := Lib.hid ham
                  have HMB := Lib.hid hmb
                  have hm255 : m < 255 := by have := HP.out.bn; omega
                  clear hr6 ham hmb hlo hhi
                  go_wp2_with fail
                  · refine HIL.out.mono ?_
                    rintro e w7 ⟨rfl, d7, hr7, hs7⟩
                    have HN := Lib.hid ((HPM.out d7 w7).1 hr7 hs7)
                    clear hr7 hs7
                    go_wp2
                    go_roundw
                    case rel => exact ⟨m + 1, b', l, d7, _, _, by go_num, rfl, rfl, rfl, rfl, hl, HN.out⟩
                    case measure => simp [cnt]; have := HAM.out; have := HMB.out; omega
                  · rw [show ((m : Int) + 1) = ((m + 1 : Nat) : Int) by omega]
                    refine HIR.out.mono ?_
                    rintro e w7 ⟨rfl, d7, hr7, hs7⟩
                    have HN := Lib.hid ((HPM.out d7 w7).2 hr7 hs7)
                    clear hr7 hs7
                    go_wp2
                    go_roundw
                    case rel => exact ⟨a', m, l, d7, _, _, rfl, rfl, rfl, rfl, rfl, hl, HN.out⟩
                    case measure => simp [cnt]; have := HAM.out; have := HMB.out; omega
              · have ha0' : decide ((0 : Int) < (a' : Int)) = false := by simp; omega
                go_quiet (first | (go_at_call 33; refine Calls.quiet_of_same (less_u _ _ _)))
                go_wp2_with fail
                have HP := Lib.hid (HP6.out.drewN nq)
                clear hcw HG
                refine (part_u off base g n cap a' b' x _ _ HO.out HP.out.row.own HY.out.1 HY.out.2 HP.out.bn hsz).mono ?_
                rintro e w6 ⟨m, d6, c6, rfl, hr6, ham, hmb, hlo, hhi⟩
                have HPM := Lib.hid (show ∀ d'' w'', (RowU w6 base g n cap d6 a' m d'' w'' → Srtd d'' a' m → PdS w base g n cap d a b (m + 1) b' d'' w'') ∧ (RowU w6 base g n cap d6 (m + 1) b' d'' w'' → Srtd d'' (m + 1) b' → PdS w base g n cap d a b a' m d'' w'') from
                  fun d'' w'' => ⟨fun k2 hs => HP.out.left hr6 ham hmb hlo hhi k2 hs, fun k2 hs => HP.out.right hr6 ham hmb hlo hhi k2 hs⟩)
                have HIL := Lib.hid (IH.out (m - a') (by have := HP.out.ha; have := HP.out.hb; have := HM.out; omega) off a' m l d6 w6 HO.out (Nat.le_refl _) hr6.own ham (by have := HP.out.bn; omega) (fun t t0 t1 t2 => (HP.out.step hr6).low' t t0 t1 (by omega)) hl)
                have HIR := Lib.hid (IH.out (b' - (m + 1)) (by have := HP.out.ha; have := HP.out.hb; have := HM.out; omega) off (m + 1) b' l d6 w6 HO.out (Nat.le_refl _) hr6.own (by omega) HP.out.bn (fun t t0 t1 t2 => hhi t (by omega) t2) hl)
                have HAM := Lib.hid ham
                have HMB := Lib.hid hmb
                have hm255 : m < 255 := by have := HP.out.bn; omega
                clear hr6 ham hmb hlo hhi
                go_wp2_with fail
                · refine HIL.out.mono ?_
                  rintro e w7 ⟨rfl, d7, hr7, hs7⟩
                  have HN := Lib.hid ((HPM.out d7 w7).1 hr7 hs7)
                  clear hr7 hs7
                  go_wp2
                  go_roundw
                  case rel => exact ⟨m + 1, b', l, d7, _, _, by go_num, rfl, rfl, rfl, rfl, hl, HN.out⟩
                  case measure => simp [cnt]; have := HAM.out; have := HMB.out; omega
                · rw [show ((m : Int) + 1) = ((m + 1 : Nat) : Int) by omega]
                  refine HIR.out.mono ?_
                  rintro e w7 ⟨rfl, d7, hr7, hs7⟩
                  have HN := Lib.hid ((HPM.out d7 w7).2 hr7 hs7)
                  clear hr7 hs7
                  go_wp2
                  go_roundw
                  case rel => exact ⟨a', m, l, d7, _, _, rfl, rfl, rfl, rfl, rfl, hl, HN.out⟩
                  case measure => simp [cnt]; have := HAM.out; have := HMB.out; omega
            · by_cases h1 : h = 1
              · subst h1
                have CP := Lib.hid (partial_u off base g n cap a' b' dk w6 HO.out HP6.out.row.own (by omega) HP6.out.bn hsz HP6.out.low')
                go_wp2_with fail
                have hy : a' ≤ x ∧ x < b' := HX.out
                refine CP.out.mono ?_
                rintro e w9 ⟨c, d9, rfl, hr9, hs9⟩
                clear CP
                cases c
                · have HP9 := Lib.hid (HP6.out.step hr9)
                  clear hr9 hs9
                  go_wp2_with fail
                  obtain ⟨G, hG⟩ : ∃ G : Nat → Int, ∀ t, G t = ele d9 t := ⟨fun t => ele d9 t, fun _ => rfl⟩
                  have hcw : ∀ t, t < n → (w9).cell? ⟨g, off + t, none⟩ = some (.int .u64 (G t)) := fun t ht => by rw [hG, HO.out, Nat.zero_add]; exact HP9.out.row.cell t ht
                  have HG := Lib.hid hG
                  have hyn : x < n := by have := HP9.out.bn; omega
                  have HY := Lib.hid hy
                  clear hG hy
                  by_cases ha0 : 0 < a'
                  · have ha0' : decide ((0 : Int) < (a' : Int)) = true := by simp; omega
                    have ha1n : a' - 1 < n := by have := HP9.out.bn; omega
                    have ha1 : 1 ≤ a' := ha0
                    go_quiet (first | (go_at_call 33; refine Calls.quiet_of_same (less_u _ _ _)))
                    go_wp2_with fail
                    · have hl : ltU (G (a' - 1)) (G x) = false := by simpa using ‹(!ltU (G (a' - 1)) (G x)) = true›
                      have hle : ele d9 x ≤ ele d9 (a' - 1) := by have := ltU_f hl; rwa [HG.out, HG.out] at this
                      have HLE := Lib.hid hle
                      have HP := Lib.hid (HP9.out.drewN nq)
                      clear hl hle hcw HG
                      refine (parteq_u off base g n cap a' b' x _ _ HO.out HP.out.row.own HY.out.1 HY.out.2 HP.out.bn hsz).mono ?_
                      rintro e w8 ⟨i, d8, rfl, hr8, hai, hib, hlo, hhi⟩
                      have HN := Lib.hid (HP.out.equal hr8 ha0 hai hib HLE.out hlo)
                      have HAI := Lib.hid hai
                      have HIB := Lib.hid hib
                      clear hr8 hai hib hlo hhi
                      go_wp2
                      go_roundw
                      case rel => exact ⟨i, b', l, d8, _, _, rfl, rfl, rfl, rfl, rfl, hl, HN.out⟩
                      case measure => simp [cnt]; have := HAI.out; have := HIB.out; omega
                    · have HP := Lib.hid (HP9.out.drewN nq)
                      clear hcw HG
                      refine (part_u off base g n cap a' b' x _ _ HO.out HP.out.row.own HY.out.1 HY.out.2 HP.out.bn hsz).mono ?_
                      rintro e w6 ⟨m, d6, c6, rfl, hr6, ham, hmb, hlo, hhi⟩
                      have HPM := Lib.hid (show ∀ d'' w'', (RowU w6 base g n cap d6 a' m d'' w'' → Srtd d'' a' m → PdS w base g n cap d a b (m + 1) b' d'' w'') ∧ (RowU w6 base g n cap d6 (m + 1) b' d'' w'' → Srtd d'' (m + 1) b' → PdS w base g n cap d a b a' m d'' w'') from
                        fun d'' w'' => ⟨fun k2 hs => HP.out.left hr6 ham hmb hlo hhi k2 hs, fun k2 hs => HP.out.right hr6 ham hmb hlo hhi k2 hs⟩)
                      have HIL := Lib.hid (IH.out (m - a') (by have := HP.out.ha; have := HP.out.hb; have := HM.out; omega) off a' m l d6 w6 HO.out (Nat.le_refl _) hr6.own ham (by have := HP.out.bn; omega) (fun t t0 t1 t2 => (HP.out.step hr6).low' t t0 t1 (by omega)) hl)
                      have HIR := Lib.hid (IH.out (b' - (m + 1)) (by have := HP.out.ha; have := HP.out.hb; have := HM.out; omega) off (m + 1) b' l d6 w6 HO.out (Nat.le_refl _) hr6.own (by omega) HP.out.bn (fun t t0 t1 t2 => hhi t (by omega) t2) hl)
                      have HAM := Lib.hid ham
                      have HMB := Lib.hid hmb
                      have hm255 : m < 255 := by have := HP.out.bn; omega
                      clear hr6 ham hmb hlo hhi
                      go_wp2_with fail
                      · refine HIL.out.mono ?_
                        rintro e w7 ⟨rfl, d7, hr7, hs7⟩
                        have HN := Lib.hid ((HPM.out d7 w7).1 hr7 hs7)
                        clear hr7 hs7
                        go_wp2
                        go_roundw
                        case rel => exact ⟨m + 1, b', l, d7, _, _, by go_num, rfl, rfl, rfl, rfl, hl, HN.out⟩
                        case measure => simp [cnt]; have := HAM.out; have := HMB.out; omega
                      · rw [show ((m : Int) + 1) = ((m + 1 : Nat) : Int) by omega]
                        refine HIR.out.mono ?_
                        rintro e w7 ⟨rfl, d7, hr7, hs7⟩
                        have HN := Lib.hid ((HPM.out d7 w7).2 hr7 hs7)
                        clear hr7 hs7
                        go_wp2
                        go_roundw
                        case rel => exact ⟨a', m, l, d7, _, _, rfl, rfl, rfl, rfl, rfl, hl, HN.out⟩
                        case measure => simp [cnt]; have := HAM.out; have := HMB.out; omega
                  · have ha0' : decide ((0 : Int) < (a' : Int)) = false := by simp; omega
                    go_quiet (first | (go_at_call 33; refine Calls.quiet_of_same (less_u _ _ _)))
                    go_wp2_with fail
                    have HP := Lib.hid (HP9.out.drewN nq)
                    clear hcw HG
                    refine (part_u off base g n cap a' b' x _ _ HO.out HP.out.row.own HY.out.1 HY.out.2 HP.out.bn hsz).mono ?_
                    rintro e w6 ⟨m, d6, c6, rfl, hr6, ham, hmb, hlo, hhi⟩
                    have HPM := Lib.hid (show ∀ d'' w'', (RowU w6 base g n cap d6 a' m d'' w'' → Srtd d'' a' m → PdS w base g n cap d a b (m + 1) b' d'' w'') ∧ (RowU w6 base g n cap d6 (m + 1) b' d'' w'' → Srtd d'' (m + 1) b' → PdS w base g n cap d a b a' m d'' w'') from
                      fun d'' w'' => ⟨fun k2 hs => HP.out.left hr6 ham hmb hlo hhi k2 hs, fun k2 hs => HP.out.right hr6 ham hmb hlo hhi k2 hs⟩)
                    have HIL := Lib.hid (IH.out (m - a') (by have := HP.out.ha; have := HP.out.hb; have := HM.out; omega) off a' m l d6 w6 HO.out (Nat.le_refl _) hr6.own ham (by have := HP.out.bn; omega) (fun t t0 t1 t2 => (HP.out.step hr6).low' t t0 t1 (by omega)) hl)
                    have HIR := Lib.hid (IH.out (b' - (m + 1)) (by have := HP.out.ha; have := HP.out.hb; have := HM.out; omega) off (m + 1) b' l d6 w6 HO.out (Nat.le_refl _) hr6.own (by omega) HP.out.bn (fun t t0 t1 t2 => hhi t (by omega) t2) hl)
                    have HAM := Lib.hid ham
                    have HMB := Lib.hid hmb
                    have hm255 : m < 255 := by have := HP.out.bn; omega
                    clear hr6 ham hmb hlo hhi
                    go_wp2_with fail
                    · refine HIL.out.mono ?_
                      rintro e w7 ⟨rfl, d7, hr7, hs7⟩
                      have HN := Lib.hid ((HPM.out d7 w7).1 hr7 hs7)
                      clear hr7 hs7
                      go_wp2
                      go_roundw
                      case rel => exact ⟨m + 1, b', l, d7, _, _, by go_num, rfl, rfl, rfl, rfl, hl, HN.out⟩
                      case measure => simp [cnt]; have := HAM.out; have := HMB.out; omega
                    · rw [show ((m : Int) + 1) = ((m + 1 : Nat) : Int) by omega]
                      refine HIR.out.mono ?_
                      rintro e w7 ⟨rfl, d7, hr7, hs7⟩
                      have HN := Lib.hid ((HPM.out d7 w7).2 hr7 hs7)
                      clear hr7 hs7
                      go_wp2
                      go_roundw
                      case rel => exact ⟨a', m, l, d7, _, _, rfl, rfl, rfl, rfl, rfl, hl, HN.out⟩
                      case measure => simp [cnt]; have := HAM.out; have := HMB.out; omega
                · have HF := Lib.hid (HP6.out.done hr9 (hs9 rfl))
                  clear hr9 hs9
                  go_wp2_with fail
                  refine bodyPost_ret (results_none (by kernel_rfl) _ _ _) rfl ?_
                  exact ⟨rfl, HF.out⟩
              · have h1' : ((h : Int) == 1) = false := by rw [beq_eq_false_iff_ne]; omega
                go_wp2_with fail
                have hy : a' ≤ x ∧ x < b' := HX.out
                obtain ⟨G, hG⟩ : ∃ G : Nat → Int, ∀ t, G t = ele dk t := ⟨fun t => ele dk t, fun _ => rfl⟩
                have hcw : ∀ t, t < n → (w6).cell? ⟨g, off + t, none⟩ = some (.int .u64 (G t)) := fun t ht => by rw [hG, HO.out, Nat.zero_add]; exact HP6.out.row.cell t ht
                have HG := Lib.hid hG
                have hyn : x < n := by have := HP6.out.bn; omega
                have HY := Lib.hid hy
                clear hG hy
                by_cases ha0 : 0 < a'
                · have ha0' : decide ((0 : Int) < (a' : Int)) = true := by simp; omega
                  have ha1n : a' - 1 < n := by have := HP6.out.bn; omega
                  have ha1 : 1 ≤ a' := ha0
                  go_quiet (first | (go_at_call 33; refine Calls.quiet_of_same (less_u _ _ _)))
                  go_wp2_with fail
                  · have hl : ltU (G (a' - 1)) (G x) = false := by simpa using ‹(!ltU (G (a' - 1)) (G x)) = true›
                    have hle : ele dk x ≤ ele dk (a' - 1) := by have := ltU_f hl; rwa [HG.out, HG.out] at this
                    have HLE := Lib.hid hle
                    have HP := Lib.hid (HP6.out.drewN nq)
                    clear hl hle hcw HG
                    refine (parteq_u off base g n cap a' b' x _ _ HO.out HP.out.row.own HY.out.1 HY.out.2 HP.out.bn hsz).mono ?_
                    rintro e w8 ⟨i, d8, rfl, hr8, hai, hib, hlo, hhi⟩
                    have HN := Lib.hid (HP.out.equal hr8 ha0 hai hib HLE.out hlo)
                    have HAI := Lib.hid hai
                    have HIB := Lib.hid hib
                    clear hr8 hai hib hlo hhi
                    go_wp2
                    go_roundw
                    case rel => exact ⟨i, b', l, d8, _, _, rfl, rfl, rfl, rfl, rfl, hl, HN.out⟩
                    case measure => simp [cnt]; have := HAI.out; have := HIB.out; omega
                  · have HP := Lib.hid (HP6.out.drewN nq)
                    clear hcw HG
                    refine (part_u off base g n cap a' b' x _ _ HO.out HP.out.row.own HY.out.1 HY.out.2 HP.out.bn hsz).mono ?_
                    rintro e w6 ⟨m, d6, c6, rfl, hr6, ham, hmb, hlo, hhi⟩
                    have HPM := Lib.hid (show ∀ d'' w'', (RowU w6 base g n cap d6 a' m d'' w'' → Srtd d'' a' m → PdS w base g n cap d a b (m + 1) b' d'' w'') ∧ (RowU w6 base g n cap d6 (m + 1) b' d'' w'' → Srtd d'' (m + 1) b' → PdS w base g n cap d a b a' m d'' w'') from
                      fun d'' w'' => ⟨fun k2 hs => HP.out.left hr6 ham hmb hlo hhi k2 hs, fun k2 hs => HP.out.right hr6 ham hmb hlo hhi k2 hs⟩)
                    have HIL := Lib.hid (IH.out (m - a') (by have := HP.out.ha; have := HP.out.hb; have := HM.out; omega) off a' m l d6 w6 HO.out (Nat.le_refl _) hr6.own ham (by have := HP.out.bn; omega) (fun t t0 t1 t2 => (HP.out.step hr6).low' t t0 t1 (by omega)) hl)
                    have HIR := Lib.hid (IH.out (b' - (m + 1)) (by have := HP.out.ha; have := HP.out.hb; have := HM.out; omega) off (m + 1) b' l d6 w6 HO.out (Nat.le_refl _) hr6.own (by omega) HP.out.bn (fun t t0 t1 t2 => hhi t (by omega) t2) hl)
                    have HAM := Lib.hid ham
                    have HMB := Lib.hid hmb
                    have hm255 : m < 255 := by have := HP.out.bn; omega
                    clear hr6 ham hmb hlo hhi
                    go_wp2_with fail
                    · refine HIL.out.mono ?_
                      rintro e w7 ⟨rfl, d7, hr7, hs7⟩
                      have HN := Lib.hid ((HPM.out d7 w7).1 hr7 hs7)
                      clear hr7 hs7
                      go_wp2
                      go_roundw
                      case rel => exact ⟨m + 1, b', l, d7, _, _, by go_num, rfl, rfl, rfl, rfl, hl, HN.out⟩
                      case measure => simp [cnt]; have := HAM.out; have := HMB.out; omega
                    · rw [show ((m : Int) + 1) = ((m + 1 : Nat) : Int) by omega]
                      refine HIR.out.mono ?_
                      rintro e w7 ⟨rfl, d7, hr7, hs7⟩
                      have HN := Lib.hid ((HPM.out d7 w7).2 hr7 hs7)
                      clear hr7 hs7
                      go_wp2
                      go_roundw
                      case rel => exact ⟨a', m, l, d7, _, _, rfl, rfl, rfl, rfl, rfl, hl, HN.out⟩
                      case measure => simp [cnt]; have := HAM.out; have := HMB.out; omega
                · have ha0' : decide ((0 : Int) < (a' : Int)) = false := by simp; omega
                  go_quiet (first | (go_at_call 33; refine Calls.quiet_of_same (less_u _ _ _)))
                  go_wp2_with fail
                  have HP := Lib.hid (HP6.out.drewN nq)
                  clear hcw HG
                  refine (part_u off base g n cap a' b' x _ _ HO.out HP.out.row.own HY.out.1 HY.out.2 HP.out.bn hsz).mono ?_
                  rintro e w6 ⟨m, d6, c6, rfl, hr6, ham, hmb, hlo, hhi⟩
                  have HPM := Lib.hid (show ∀ d'' w'', (RowU w6 base g n cap d6 a' m d'' w'' → Srtd d'' a' m → PdS w base g n cap d a b (m + 1) b' d'' w'') ∧ (RowU w6 base g n cap d6 (m + 1) b' d'' w'' → Srtd d'' (m + 1) b' → PdS w base g n cap d a b a' m d'' w'') from
                    fun d'' w'' => ⟨fun k2 hs => HP.out.left hr6 ham hmb hlo hhi k2 hs, fun k2 hs => HP.out.right hr6 ham hmb hlo hhi k2 hs⟩)
                  have HIL := Lib.hid (IH.out (m - a') (by have := HP.out.ha; have := HP.out.hb; have := HM.out; omega) off a' m l d6 w6 HO.out (Nat.le_refl _) hr6.own ham (by have := HP.out.bn; omega) (fun t t0 t1 t2 => (HP.out.step hr6).low' t t0 t1 (by omega)) hl)
                  have HIR := Lib.hid (IH.out (b' - (m + 1)) (by have := HP.out.ha; have := HP.out.hb; have := HM.out; omega) off (m + 1) b' l d6 w6 HO.out (Nat.le_refl _) hr6.own (by omega) HP.out.bn (fun t t0 t1 t2 => hhi t (by omega) t2) hl)
                  have HAM := Lib.hid ham
                  have HMB := Lib.hid hmb
                  have hm255 : m < 255 := by have := HP.out.bn; omega
                  clear hr6 ham hmb hlo hhi
                  go_wp2_with fail
                  · refine HIL.out.mono ?_
                    rintro e w7 ⟨rfl, d7, hr7, hs7⟩
                    have HN := Lib.hid ((HPM.out d7 w7).1 hr7 hs7)
                    clear hr7 hs7
                    go_wp2
                    go_roundw
                    case rel => exact ⟨m + 1, b', l, d7, _, _, by go_num, rfl, rfl, rfl, rfl, hl, HN.out⟩
                    case measure => simp [cnt]; have := HAM.out; have := HMB.out; omega
                  · rw [show ((m : Int) + 1) = ((m + 1 : Nat) : Int) by omega]
                    refine HIR.out.mono ?_
                    rintro e w7 ⟨rfl, d7, hr7, hs7⟩
                    have HN := Lib.hid ((HPM.out d7 w7).2 hr7 hs7)
                    clear hr7 hs7
                    go_wp2
                    go_roundw
                    case rel => exact ⟨a', m, l, d7, _, _, rfl, rfl, rfl, rfl, rfl, hl, HN.out⟩
                    case measure => simp [cnt]; have := HAM.out; have := HMB.out; omega
end Go.Proofs.Ythnefhkacgkacaa
