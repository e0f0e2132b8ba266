import Derived.Test.YtjofegjiakjjhaaDoorMSse
import Derived.Test.YtjofegjiakjjhaaDoorMSsa
import Derived.Test.YtjofegjiakjjhaaDoorMShape
/- Script: lists of steps in memory; the document's All. -/
namespace Go.Proofs.YtjofegjiakjjhaaDoor
open Go.RowKit Go.Lib Mf

/-- A step's cells. -/
def stL (p : St × Value) : List Value := (stC p.1 p.2).toList
theorem stL_len (p : St × Value) : (stL p).length = 12 := rfl
/-- Steps in memory, one behind the other. -/
structure StsR (w : World) (B : Nat) (A : Option Addr) (l : List (St × Value)) : Prop where
  rd : Reads w B 12 A l.length (l.flatMap stL)
  fl : ∀ p ∈ l, FailsAt w B p.2 p.1.fails
theorem failsAt_below {w w' : World} {B : Nat} {F : Value} {l : List Bool} (h : FailsAt w B F l) (hb : Below B w w') : FailsAt w' B F l := by
  obtain ⟨A, c, e, hr⟩ := h
  exact ⟨A, c, e, hr.below hb⟩
theorem failsAt_more {w : World} {B B' : Nat} {F : Value} {l : List Bool} (h : FailsAt w B F l) (hB : B ≤ B') : FailsAt w B' F l := by
  obtain ⟨A, c, e, hr⟩ := h
  exact ⟨A, c, e, hr.more hB⟩
theorem StsR.below {w w' : World} {B : Nat} {A : Option Addr} {l : List (St × Value)} (h : StsR w B A l) (hb : Below B w w') : StsR w' B A l :=
  ⟨h.rd.below hb, fun p hp => by
    obtain ⟨A, c, e, hr⟩ := h.fl p hp
    exact ⟨A, c, e, hr.below hb⟩⟩
theorem StsR.more {w : World} {B B' : Nat} {A : Option Addr} {l : List (St × Value)} (h : StsR w B A l) (hB : B ≤ B') : StsR w B' A l :=
  ⟨h.rd.more hB, fun p hp => by
    obtain ⟨A, c, e, hr⟩ := h.fl p hp
    exact ⟨A, c, e, hr.more hB⟩⟩
theorem StsR.at_ {w : World} {B : Nat} {A : Option Addr} {l : List (St × Value)} (h : StsR w B A l) {i : Nat} {s : St} {F : Value} (hi : l[i]? = some (s, F)) :
    ∃ ad, A = some ad ∧ ad.block < B ∧ FailsAt w B F s.fails ∧ ∀ j v, (stC s F)[j]? = some v → w.cell? ((ad.add (i * 12)).add j) = some v := by
  have hil := (List.getElem?_eq_some_iff.1 hi).1
  obtain ⟨ad, e, hb, hc⟩ := h.rd.2 (by omega)
  refine ⟨ad, e, hb, h.fl _ (List.mem_of_getElem? hi), fun j v hv => ?_⟩
  have hj : j < 12 := by
    have := (Array.getElem?_eq_some_iff.1 hv).1
    exact this
  rw [add_of_add]
  refine hc _ v ?_
  rw [flat_get stL_len l i j _ hi hj]
  unfold stL
  rw [Array.getElem?_toList]
  exact hv
theorem add_n0 (a : Addr) (j : Nat) (hj : j ≠ 0) : a.add j = ⟨a.block, a.off + j, none⟩ := by
  unfold Addr.add; rw [if_neg hj]
theorem add_z0 (a : Addr) : a.add 0 = a := by unfold Addr.add; rw [if_pos rfl]
/-- The twelve cells of a step at an address. -/
def Cel (w : World) (a : Addr) (s : St) (F : Value) : Prop := w.cell? a = some (.int .i64 s.kind) ∧ w.cell? ⟨a.block, a.off + 1, none⟩ = some (.int .i64 s.guest) ∧ w.cell? ⟨a.block, a.off + 2, none⟩ = some (.int .u64 s.addr) ∧ w.cell? ⟨a.block, a.off + 3, none⟩ = some (.int .i64 s.size) ∧ w.cell? ⟨a.block, a.off + 4, none⟩ = some (.int .u64 s.value) ∧ w.cell? ⟨a.block, a.off + 5, none⟩ = some (.int .i64 s.page) ∧ w.cell? ⟨a.block, a.off + 6, none⟩ = some (.bool s.on) ∧ w.cell? ⟨a.block, a.off + 7, none⟩ = some (.int .i64 s.asid) ∧ w.cell? ⟨a.block, a.off + 8, none⟩ = some (.int .i64 s.what) ∧ w.cell? ⟨a.block, a.off + 9, none⟩ = some (.int .i64 s.set) ∧ w.cell? ⟨a.block, a.off + 10, none⟩ = some (.int .i64 s.way) ∧ w.cell? ⟨a.block, a.off + 11, none⟩ = some F
theorem StsR.cel {w : World} {B : Nat} {A : Option Addr} {l : List (St × Value)} (h : StsR w B A l) {i : Nat} {s : St} {F : Value} (hi : l[i]? = some (s, F)) :
    ∃ ad, A = some ad ∧ ad.block < B ∧ FailsAt w B F s.fails ∧ Cel w (ad.add (i * 12)) s F := by
  obtain ⟨ad, e, hb, hf, hc⟩ := h.at_ hi
  refine ⟨ad, e, hb, hf, ?_⟩
  have h0 := hc 0 _ rfl
  rw [add_z0] at h0
  have hk : ∀ j v, j ≠ 0 → (stC s F)[j]? = some v → w.cell? ⟨(ad.add (i * 12)).block, (ad.add (i * 12)).off + j, none⟩ = some v := fun j v hj hv => by
    rw [← add_n0 _ j hj]; exact hc j v hv
  exact ⟨h0, hk 1 _ (by decide) rfl, hk 2 _ (by decide) rfl, hk 3 _ (by decide) rfl, hk 4 _ (by decide) rfl, hk 5 _ (by decide) rfl, hk 6 _ (by decide) rfl, hk 7 _ (by decide) rfl, hk 8 _ (by decide) rfl, hk 9 _ (by decide) rfl, hk 10 _ (by decide) rfl, hk 11 _ (by decide) rfl⟩
theorem Cel.below {w w' : World} {B : Nat} {a : Addr} {s : St} {F : Value} (h : Cel w a s F) (hb : Below B w w') (ha : a.block < B) : Cel w' a s F := by
  obtain ⟨h0, h1, h2, h3, h4, h5, h6, h7, h8, h9, h10, h11⟩ := h
  have key : ∀ o v, w.cell? ⟨a.block, o, none⟩ = some v → w'.cell? ⟨a.block, o, none⟩ = some v := fun o v hv => (hb.cell (p := ⟨a.block, o, none⟩) ha).trans hv
  exact ⟨(hb.cell ha).trans h0, key _ _ h1, key _ _ h2, key _ _ h3, key _ _ h4, key _ _ h5, key _ _ h6, key _ _ h7, key _ _ h8, key _ _ h9, key _ _ h10, key _ _ h11⟩
instance : DecidableEq St := fun a b => decidable_of_iff (sameS a b = true) (sameS_iff a b)
def AlR (w : World) (l k : List (St × Value)) (v5 : Value) (wr : World) : Prop := ∃ i : Nat, v5 = .int .i64 i ∧ i ≤ l.length ∧ (∀ j, j < i → (l[j]?).map (·.1) = (k[j]?).map (·.1)) ∧ Below w.heap.size w wr
set_option maxRecDepth 20000 in
set_option maxHeartbeats 8000000 in
theorem rall (l k : List (St × Value)) (A B : Option Addr) (c1 c2 : Nat) (w : World) (hl : StsR w w.heap.size A l) (hk : StsR w w.heap.size B k) (hll : l.length ≤ 1000000) (hlk : k.length ≤ 1000000) (hf1 : ∀ p ∈ l, p.1.fails.length ≤ 1000000) (hf2 : ∀ p ∈ k, p.1.fails.length ≤ 1000000) :
    Calls Tryd.prog 22 #[.slice A l.length c1, .slice B k.length c2] w fun e w' => e = .returned (.bool (decide (l.map (·.1) = k.map (·.1)))) ∧ Below w.heap.size w w' := by
  obtain ⟨n, hn⟩ : ∃ n, l.length = n := ⟨_, rfl⟩
  obtain ⟨m, hm⟩ : ∃ n, k.length = n := ⟨_, rfl⟩
  have HN := Lib.hid hn
  have HM := Lib.hid hm
  have HL := Lib.hid hl
  have HK := Lib.hid hk
  rw [hn] at hll ⊢
  rw [hm] at hlk ⊢
  clear hn hm hl hk
  by_cases hnm : n = m
  · subst hnm
    have q : ((n : Int) != (n : Int)) = false := by simp
    go_enter Tryd.func22, Tryd.ntmps22
    go_wp2_with fail
    go_loopw [5] (AlR w l k) (fun v _ => n - cntZ v)
    case atStart => exact ⟨0, rfl, Nat.zero_le _, fun j hj => by omega, Below.refl _ _⟩
    case round =>
      obtain ⟨i, rfl, hi, hal, hbe⟩ := hrel
      have HBE := Lib.hid hbe
      have HAL := Lib.hid hal
      rw [HN.out] at hi
      clear hbe hal
      by_cases hin : i < n
      · have g1 : decide ((i : Int) < (n : Int)) = true := by simp; exact hin
        have g1' : decide (i < n) = true := by simp; exact hin
        obtain ⟨⟨s, F⟩, hs⟩ : ∃ p, l[i]? = some p := ⟨_, List.getElem?_eq_getElem (by rw [HN.out]; exact hin)⟩
        obtain ⟨⟨t, G⟩, ht⟩ : ∃ p, k[i]? = some p := ⟨_, List.getElem?_eq_getElem (by rw [HM.out]; exact hin)⟩
        obtain ⟨ad, rfl, hab, hfa, hca⟩ := (HL.out.below HBE.out).cel hs
        obtain ⟨bd, rfl, hbb, hfb, hcb⟩ := (HK.out.below HBE.out).cel ht
        have HS := Lib.hid hs
        have HT := Lib.hid ht
        clear hs ht
        go_upto_region 6 with fail
        refine wp_region_held_drew (S := (fun w' => (w'.cell? (ad.add (i * 12)) = some (.int .i64 s.kind) ∧ w'.cell? ⟨(ad.add (i * 12)).block, (ad.add (i * 12)).off + 1, none⟩ = some (.int .i64 s.guest) ∧ w'.cell? ⟨(ad.add (i * 12)).block, (ad.add (i * 12)).off + 2, none⟩ = some (.int .u64 s.addr) ∧ w'.cell? ⟨(ad.add (i * 12)).block, (ad.add (i * 12)).off + 3, none⟩ = some (.int .i64 s.size) ∧ w'.cell? ⟨(ad.add (i * 12)).block, (ad.add (i * 12)).off + 4, none⟩ = some (.int .u64 s.value) ∧ w'.cell? ⟨(ad.add (i * 12)).block, (ad.add (i * 12)).off + 5, none⟩ = some (.int .i64 s.page) ∧ w'.cell? ⟨(ad.add (i * 12)).block, (ad.add (i * 12)).off + 6, none⟩ = some (.bool s.on) ∧ w'.cell? ⟨(ad.add (i * 12)).block, (ad.add (i * 12)).off + 7, none⟩ = some (.int .i64 s.asid) ∧ w'.cell? ⟨(ad.add (i * 12)).block, (ad.add (i * 12)).off + 8, none⟩ = some (.int .i64 s.what) ∧ w'.cell? ⟨(ad.add (i * 12)).block, (ad.add (i * 12)).off + 9, none⟩ = some (.int .i64 s.set) ∧ w'.cell? ⟨(ad.add (i * 12)).block, (ad.add (i * 12)).off + 10, none⟩ = some (.int .i64 s.way) ∧ w'.cell? ⟨(ad.add (i * 12)).block, (ad.add (i * 12)).off + 11, none⟩ = some F) ∧ (w'.cell? (bd.add (i * 12)) = some (.int .i64 t.kind) ∧ w'.cell? ⟨(bd.add (i * 12)).block, (bd.add (i * 12)).off + 1, none⟩ = some (.int .i64 t.guest) ∧ w'.cell? ⟨(bd.add (i * 12)).block, (bd.add (i * 12)).off + 2, none⟩ = some (.int .u64 t.addr) ∧ w'.cell? ⟨(bd.add (i * 12)).block, (bd.add (i * 12)).off + 3, none⟩ = some (.int .i64 t.size) ∧ w'.cell? ⟨(bd.add (i * 12)).block, (bd.add (i * 12)).off + 4, none⟩ = some (.int .u64 t.value) ∧ w'.cell? ⟨(bd.add (i * 12)).block, (bd.add (i * 12)).off + 5, none⟩ = some (.int .i64 t.page) ∧ w'.cell? ⟨(bd.add (i * 12)).block, (bd.add (i * 12)).off + 6, none⟩ = some (.bool t.on) ∧ w'.cell? ⟨(bd.add (i * 12)).block, (bd.add (i * 12)).off + 7, none⟩ = some (.int .i64 t.asid) ∧ w'.cell? ⟨(bd.add (i * 12)).block, (bd.add (i * 12)).off + 8, none⟩ = some (.int .i64 t.what) ∧ w'.cell? ⟨(bd.add (i * 12)).block, (bd.add (i * 12)).off + 9, none⟩ = some (.int .i64 t.set) ∧ w'.cell? ⟨(bd.add (i * 12)).block, (bd.add (i * 12)).off + 10, none⟩ = some (.int .i64 t.way) ∧ w'.cell? ⟨(bd.add (i * 12)).block, (bd.add (i * 12)).off + 11, none⟩ = some G))) (by kernel_rfl) ?_ (fun hHeld => ?_)
        · exact ⟨hca, hcb⟩
        replace HBE := Lib.hid (HBE.out.drew)
        replace hca := Lib.hid (show Cel wr.drew _ _ _ from hca)
        replace hcb := Lib.hid (show Cel wr.drew _ _ _ from hcb)
        replace hfa := failsAt_below hfa (Below.refl _ wr).drew
        replace hfb := failsAt_below hfb (Below.refl _ wr).drew
        generalize wr.drew = wv at *
        have HBW := Lib.hid (show w.heap.size ≤ wv.heap.size from HBE.out.size)
        ((refine takeY 0 (v := ?_) rfl (by kernel_rfl) (by kernel_rfl) (by kernel_rfl) (fun _ _ _ h => h) (by rfl) (by assumption) ?_ ?_; rotate_left; · (intro w hSw; (try dsimp only at hSw); go_simp; (first | done | with_reducible rfl))))
        (try simp only [Act.put, List.setIfInBounds_toArray, List.set_cons_zero, List.set_cons_succ])
        ((refine takeY 1 (v := ?_) rfl (by kernel_rfl) (by kernel_rfl) (by kernel_rfl) (fun _ _ _ h => h) (by rfl) (by assumption) ?_ ?_; rotate_left; · (intro w hSw; (try dsimp only at hSw); go_simp; (first | done | with_reducible rfl))))
        (try simp only [Act.put, List.setIfInBounds_toArray, List.set_cons_zero, List.set_cons_succ])
        ((refine takeY 2 (v := ?_) rfl (by kernel_rfl) (by kernel_rfl) (by kernel_rfl) (fun _ _ _ h => h) (by rfl) (by assumption) ?_ ?_; rotate_left; · (intro w hSw; (try dsimp only at hSw); go_simp; (first | done | with_reducible rfl))))
        (try simp only [Act.put, List.setIfInBounds_toArray, List.set_cons_zero, List.set_cons_succ])
        ((refine takeY 3 (v := ?_) rfl (by kernel_rfl) (by kernel_rfl) (by kernel_rfl) (fun _ _ _ h => h) (by rfl) (by assumption) ?_ ?_; rotate_left; · (intro w hSw; (try dsimp only at hSw); go_simp; (first | done | with_reducible rfl))))
        (try simp only [Act.put, List.setIfInBounds_toArray, List.set_cons_zero, List.set_cons_succ])
        ((refine takeY 4 (v := ?_) rfl (by kernel_rfl) (by kernel_rfl) (by kernel_rfl) (fun _ _ _ h => h) (by rfl) (by assumption) ?_ ?_; rotate_left; · (intro w hSw; (try dsimp only at hSw); go_simp; (first | done | with_reducible rfl))))
        (try simp only [Act.put, List.setIfInBounds_toArray, List.set_cons_zero, List.set_cons_succ])
        ((refine takeY 5 (v := ?_) rfl (by kernel_rfl) (by kernel_rfl) (by kernel_rfl) (fun _ _ _ h => h) (by rfl) (by assumption) ?_ ?_; rotate_left; · (intro w hSw; (try dsimp only at hSw); go_simp; (first | done | with_reducible rfl))))
        (try simp only [Act.put, List.setIfInBounds_toArray, List.set_cons_zero, List.set_cons_succ])
        ((refine takeY 6 (v := ?_) rfl (by kernel_rfl) (by kernel_rfl) (by kernel_rfl) (fun _ _ _ h => h) (by rfl) (by assumption) ?_ ?_; rotate_left; · (intro w hSw; (try dsimp only at hSw); go_simp; (first | done | with_reducible rfl))))
        (try simp only [Act.put, List.setIfInBounds_toArray, List.set_cons_zero, List.set_cons_succ])
        ((refine takeY 7 (v := ?_) rfl (by kernel_rfl) (by kernel_rfl) (by kernel_rfl) (fun _ _ _ h => h) (by rfl) (by assumption) ?_ ?_; rotate_left; · (intro w hSw; (try dsimp only at hSw); go_simp; (first | done | with_reducible rfl))))
        (try simp only [Act.put, List.setIfInBounds_toArray, List.set_cons_zero, List.set_cons_succ])
        refine stepH 8 rfl (by kernel_rfl) (by rfl) (fun K hK => ?_)
        go_simp
        refine (rsame s t F G _ (failsAt_more hfa HBW.out) (failsAt_more hfb HBW.out) (hf1 _ (List.mem_of_getElem? HS.out)) (hf2 _ (List.mem_of_getElem? HT.out))).mono ?_; rintro e wn ⟨rfl, hb⟩
        replace HBE := Lib.hid (HBE.out.trans (hb.mono HBW.out))
        have HWA := Lib.hid (show (ad.add (i * 12)).block < wv.heap.size from by rw [block_of_add]; exact Nat.lt_of_lt_of_le hab HBW.out)
        have HWC := Lib.hid (show (bd.add (i * 12)).block < wv.heap.size from by rw [block_of_add]; exact Nat.lt_of_lt_of_le hbb HBW.out)
        (refine hK.out _ _ ?_ (fun hHeld => ?_))
        · exact ⟨hca.below hb HWA.out, hcb.below hb HWC.out⟩
        clear hK K hb
        ((refine takeY 9 (v := ?_) rfl (by kernel_rfl) (by kernel_rfl) (by kernel_rfl) (fun _ _ _ h => h) (by rfl) (by assumption) ?_ ?_; rotate_left; · (intro w hSw; (try dsimp only at hSw); go_simp; (first | done | with_reducible rfl))))
        (try simp only [Act.put, List.setIfInBounds_toArray, List.set_cons_zero, List.set_cons_succ])
        refine wpAnyH_done (by kernel_rfl) ?_ _
        clear hHeld
        obtain ⟨q9, hq9⟩ : ∃ b, sameS s t = b := ⟨_, rfl⟩
        rw [hq9]
        clear hca hcb hfa hfb
        cases q9 with
        | false =>
          have HE := Lib.hid (show decide (l.map (·.1) = k.map (·.1)) = false from by
            rw [decide_eq_false_iff_not]
            intro e
            have h9 := congrArg (fun x : List St => x[i]?) e
            rw [List.getElem?_map, List.getElem?_map, HS.out, HT.out] at h9
            have : s = t := Option.some.inj h9
            rw [(sameS_iff s t).2 this] at hq9
            cases hq9)
          go_wp2
          go_ret
          exact ⟨by rw [HE.out]; rfl, HBE.out⟩
        | true =>
          go_wp2
          refine ⟨⟨i + 1, by go_num, by rw [HN.out]; omega, fun j hj => ?_, HBE.out⟩, cntZ_lt hin⟩
          by_cases e : j = i
          · subst e
            rw [HS.out, HT.out]
            show some s = some t
            rw [(sameS_iff s t).1 hq9]
          · exact HAL.out j (by omega)
      · obtain rfl : i = n := by omega
        have g1 : decide ((i : Int) < (i : Int)) = false := by simp
        have HE := Lib.hid (show decide (l.map (·.1) = k.map (·.1)) = true from by
          rw [decide_eq_true_eq]
          refine List.ext_getElem? fun j => ?_
          rw [List.getElem?_map, List.getElem?_map]
          by_cases e : j < i
          · exact HAL.out j e
          · rw [List.getElem?_eq_none (by have := HN.out; omega), List.getElem?_eq_none (by have := HM.out; omega)])
        go_wp2
        go_ret
        exact ⟨by rw [HE.out]; rfl, HBE.out⟩
  · have q : ((n : Int) != (m : Int)) = true := by simp; omega
    have HE := Lib.hid (show decide (l.map (·.1) = k.map (·.1)) = false from by
      rw [decide_eq_false_iff_not]
      intro e
      have := congrArg List.length e
      rw [List.length_map, List.length_map, HN.out, HM.out] at this
      exact hnm this)
    rw [HE.out]
    go_enter Tryd.func22, Tryd.ntmps22
    go_wp2
    go_ret
    exact ⟨rfl, Below.refl _ _⟩
end Go.Proofs.YtjofegjiakjjhaaDoor
