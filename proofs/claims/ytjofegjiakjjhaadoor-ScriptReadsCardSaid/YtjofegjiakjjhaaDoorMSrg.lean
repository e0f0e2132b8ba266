import Derived.Test.YtjofegjiakjjhaaDoorMSrf
import Derived.IntWalk
/- Script, the document's own: Parse. -/
namespace Go.Proofs.YtjofegjiakjjhaaDoor
open Go.RowKit Go.Lib Mf

theorem results_cell_row_tmp {P : Program} {fn : Func} {p u : Tmp} {ty : TypeId} (h : fn.results = #[.cell p ty, .tmp u]) (tmps : Array Value) (w : World) (g : Nat) (t : TypeId) (cs : Array Value) (fr : Nat × Nat) (d : TypeDesc)
    (hp : tmps.getD p undef = .pointer (some ⟨g, 0, none⟩)) (hg : w.heap[g]? = some (.cells cs t fr))
    (hu : P.underlying ty = some d) (hd : (match d with | .struct _ | .array _ _ => true | _ => false) = true) (hi : (P.info? ty).map (·.size) = some cs.size) :
    (results fn tmps).run P w = .ok (.tuple #[.agg cs, tmps.getD u undef]) w := by
  rw [results_cell_tmp h, hp]
  simp [asAddr, run_loadVar_row w g t ty cs fr d hg hu hd hi, Result.andThen]
def PrsIs (l : Bs) (w : World) (e : Ending) (w' : World) : Prop := ∃ s F c, e = .returned (.tuple #[.agg (stC s F), .int .i64 c]) ∧ ParseIs l s c ∧ s.ok ∧ BRow w' w.heap.size F s.fails ∧ s.fails.length ≤ 100000 ∧ Below w.heap.size w w'
theorem St.ok0 (k : Int) (h : i64ok k) : ({ kind := k } : St).ok :=
  have z : i64ok 0 := ⟨by decide, by decide⟩
  { a0 := (by decide : (0 : Int) ≤ 0), a1 := (by decide : (0 : Int) < 18446744073709551616), v0 := (by decide : (0 : Int) ≤ 0), v1 := (by decide : (0 : Int) < 18446744073709551616), kind := h, guest := z, size := z, page := z, asid := z, what := z, set := z, way := z }
/-- The kinds tried. -/
def RpO (w1 : World) (l : Bs) (v5 : Value) (wr : World) : Prop := ∃ k : Nat, v5 = .int .i64 k ∧ 1 ≤ k ∧ k ≤ 33 ∧ Below w1.heap.size w1 wr ∧ ∀ j s, 1 ≤ j → j < k → candR j (cutL 32 l) = some s → ¬ IsT s l
/-- The fields set. -/
def RpI (w2 : World) (sb k : Nat) (fs : List Fd) (ws : List Bs) (v8 : Value) (wr : World) : Prop := ∃ (i : Nat) (F : Value), v8 = .int .i64 i ∧ i ≤ fs.length ∧ Blk wr sb 25 (stC (setAllR { kind := k } (fs.take i) (ws.take i)) F) ∧ BRow wr (sb + 1) F (setAllR { kind := k } (fs.take i) (ws.take i)).fails ∧ ((∃ j, j < i ∧ fs[j]? = some .f) ∨ (F = .slice none 0 0 ∧ (setAllR { kind := k } (fs.take i) (ws.take i)).fails = [])) ∧ (setAllR { kind := k } (fs.take i) (ws.take i)).fails.length ≤ i * 2000 ∧ Below sb w2 wr
theorem cutL_len (c : UInt8) : ∀ (l : Bs) (x : Bs), x ∈ cutL c l → x.length ≤ l.length
  | [], x, h => by rw [cutL, List.mem_singleton] at h; subst h; simp
  | b :: l, x, h => by
    rw [cutL] at h
    split at h
    · rw [List.mem_cons] at h
      rcases h with rfl | h
      · simp
      · have := cutL_len c l x h; simp only [List.length_cons]; omega
    · cases hc : cutL c l with
      | nil => exact absurd hc (cutL_ne c l)
      | cons y ys =>
        rw [hc, List.mem_cons] at h
        rcases h with rfl | h
        · have := cutL_len c l y (by rw [hc]; exact List.mem_cons_self)
          simp only [List.headD_cons, List.length_cons]; omega
        · have := cutL_len c l x (by rw [hc]; exact List.mem_cons_of_mem _ h)
          simp only [List.length_cons]; omega
set_option maxRecDepth 20000 in
set_option maxHeartbeats 8000000 in
theorem rparse (l : Bs) (hl0 : l.length ≤ 1000000) (w : World) : Calls Tryd.prog 14 #[bv l] w (PrsIs l w) := by
  obtain ⟨n, hn⟩ : ∃ n, l.length = n := ⟨_, rfl⟩
  have HB0 := Lib.hid ((Below.refl w.heap.size w).alloc (Nat.le_refl _) (.cells #[.int .i64 0, .int .i64 0, .int .u64 0, .int .i64 0, .int .u64 0, .int .i64 0, .bool false, .int .i64 0, .int .i64 0, .int .i64 0, .int .i64 0, .slice none 0 0] 25))
  by_cases hbig : 1100 < n
  · have g1 : decide ((n : Int) > 1100) = true := decide_eq_true (by omega)
    have g1' : decide (1100 < n) = true := decide_eq_true hbig
    go_enter Tryd.func14, Tryd.ntmps14
    go_wp2
    refine bodyPost_ret (results_cell_row_tmp rfl _ _ w.heap.size 25 _ (0, 0) _ rfl (heap_alloc_new w _) Tryd.underlying25 rfl (by kernel_rfl)) rfl ?_
    exact ⟨{}, .slice none 0 0, 2, rfl, .long (by omega), St.ok0 0 ⟨by decide, by decide⟩, World.ownsRow_nil _ _ _ _, by simp, HB0.out⟩
  · have g1 : decide ((n : Int) > 1100) = false := decide_eq_false (by omega)
    have g1' : decide (1100 < n) = false := decide_eq_false hbig
    have hls : l.length ≤ 1100 := by omega
    have HSP := Lib.hid (fun w => rsplit l (by omega) w)
    go_enter Tryd.func14, Tryd.ntmps14
    go_wp2_with fail
    refine (HSP.out _).mono ?_; rintro e w1 ⟨v4, rfl, hW, hb⟩
    have HRB := Lib.hid ((Blk.new w 25 #[.int .i64 0, .int .i64 0, .int .u64 0, .int .i64 0, .int .u64 0, .int .i64 0, .bool false, .int .i64 0, .int .i64 0, .int .i64 0, .int .i64 0, .slice none 0 0]).below hb (by simp))
    have HB1 := Lib.hid (HB0.out.trans (hb.mono (by simp)))
    have HRL := Lib.hid (show w.heap.size < w1.heap.size from by have := hb.size; simp at this; omega)
    clear hb HB0 HSP
    obtain ⟨x0, ws, hws⟩ : ∃ x ws, cutL 32 l = x :: ws := by
      cases h : cutL 32 l with
      | nil => exact absurd h (cutL_ne 32 l)
      | cons x ws => exact ⟨x, ws, rfl⟩
    have HWS := Lib.hid hws
    rw [hws] at hW
    rcases own_cases hW with ⟨_, h0⟩ | ⟨gw, cw, rfl, _, hgw, _, _, hcw⟩
    · simp at h0
    have HCW := Lib.hid (show ∀ j x, (x0 :: ws)[j]? = some x → w1.cell? ⟨gw, j, none⟩ = some (bv x) from fun j x hj => by
      have hjl := (List.getElem?_eq_some_iff.1 hj).1
      rw [hcw j hjl, List.getElem?_map, hj]; rfl)
    have HGW := Lib.hid hgw
    clear hW hws hcw hgw
    obtain ⟨nw, hnw⟩ : ∃ n, (x0 :: ws).length = n := ⟨_, rfl⟩
    have HNW := Lib.hid hnw
    rw [hnw]
    have hnw0 : 0 < nw := by rw [← hnw]; simp
    clear hnw
    go_wp2_with fail
    go_loopw [5] (RpO w1 l) (fun v _ => 33 - cntZ v)
    case atStart => exact ⟨1, rfl, Nat.le_refl _, by omega, Below.refl _ _, fun j s h1 h2 => by omega⟩
    case round =>
      obtain ⟨k, rfl, hk1, hk33, hbe, hno⟩ := hrel
      have HBE := Lib.hid hbe
      have HNO := Lib.hid hno
      clear hbe hno
      by_cases hk : k ≤ 32
      · have g2 : decide ((k : Int) ≤ 32) = true := decide_eq_true (by omega)
        have g2' : decide (k ≤ 32) = true := decide_eq_true hk
        obtain ⟨w0s, fs, hkd, hnm, hfm, hwl, hfl⟩ := kd_at hk1 hk
        have HFm := Lib.hid (fun w => (show Calls Tryd.prog 23 #[.int .i64 k] w fun e w' => e = .returned (bv (fs.map rcd)) ∧ w = w' from by rw [← hfm]; exact rform hk1 hk w))
        have HNm := Lib.hid (fun w => (show Calls Tryd.prog 29 #[.int .i64 k] w (NumIs w w0s) from by rw [← hnm]; exact rname hk1 hk w))
        have HKD := Lib.hid hkd
        obtain ⟨f, hf9⟩ : ∃ f, fs.map rcd = f := ⟨_, rfl⟩
        have hfm5 : f.length = fs.length := by rw [← hf9, List.length_map]
        obtain ⟨m, hm⟩ : ∃ m, fs.length = m := ⟨_, rfl⟩
        have HM := Lib.hid hm
        rw [hm] at hfl hfm5
        have HFG := Lib.hid (fun i c (h : fs[i]? = some c) (hi : i < f.length) => (show f[i] = rcd c from by
          have : f[i]? = some (rcd c) := by rw [← hf9, List.getElem?_map, h]; rfl
          rw [List.getElem?_eq_getElem hi] at this
          exact Option.some.inj this))
        rw [hf9] at HFm
        clear hkd hnm hfm hf9 hm
        have hwr : IntKind.i64.wrap ((m : Int) + 1) = (m : Int) + 1 := IntWalk.i64_in _ (by omega)
        go_wp2_with fail
        refine (HFm.out _).mono ?_; rintro e _ ⟨rfl, rfl⟩
        by_cases hx0 : x0 = w0s
        · have qx : (x0 == w0s) = true := by simpa using hx0
          have qx' : (x0 != w0s) = false := by simp; exact hx0
          by_cases hlen : nw = m + 1
          · have ql : ((nw : Int) == ((m : Int) + 1)) = true := by simp; omega
            have ql' : ((nw : Int) != ((m : Int) + 1)) = false := by simp; omega
            have HXW := Lib.hid hx0
            have HLN := Lib.hid hlen
            clear hx0 hlen
            go_upto_region 8 with fail
            refine wp_region_held_drew (S := (fun w' => w'.cell? ⟨gw, 0, none⟩ = some (bv x0))) (by kernel_rfl) ?_ (fun hHeld => ?_)
            · exact (HBE.out.cell HGW.out).trans (HCW.out 0 x0 rfl)
            replace HBE := Lib.hid (HBE.out.drew)
            generalize wr.drew = wc at *
            ((refine takeY 0 (v := ?_) rfl (by kernel_rfl) (by kernel_rfl) (by kernel_rfl) (fun _ _ _ h => h) (by rfl) (by assumption) ?_ ?_; rotate_left; · (intro w hSw; (try dsimp only at hSw); go_simp; (first | done | with_reducible rfl))))
            (try simp only [Act.put, List.setIfInBounds_toArray, List.set_cons_zero, List.set_cons_succ])
            ((refine takeY 1 (v := ?_) rfl (by kernel_rfl) (by kernel_rfl) (by kernel_rfl) (fun _ _ _ h => h) (by rfl) (by assumption) ?_ ?_; rotate_left; · (intro w hSw; (try dsimp only at hSw); go_simp; (first | done | with_reducible rfl))))
            (try simp only [Act.put, List.setIfInBounds_toArray, List.set_cons_zero, List.set_cons_succ])
            ((refine takeY 2 (v := ?_) rfl (by kernel_rfl) (by kernel_rfl) (by kernel_rfl) (fun _ _ _ h => h) (by rfl) (by assumption) ?_ ?_; rotate_left; · (intro w hSw; (try dsimp only at hSw); go_simp; (first | done | with_reducible rfl))))
            (try simp only [Act.put, List.setIfInBounds_toArray, List.set_cons_zero, List.set_cons_succ])
            ((refine takeY 3 (v := ?_) rfl (by kernel_rfl) (by kernel_rfl) (by kernel_rfl) (fun _ _ _ h => h) (by rfl) (by assumption) ?_ ?_; rotate_left; · (intro w hSw; (try dsimp only at hSw); go_simp; (first | done | with_reducible rfl))))
            (try simp only [Act.put, List.setIfInBounds_toArray, List.set_cons_zero, List.set_cons_succ])
            refine stepH 4 rfl (by kernel_rfl) (by rfl) (fun K hK => ?_)
            go_simp
            refine (HNm.out _).mono ?_; rintro e wn ⟨rfl, hb⟩
            replace HBE := Lib.hid (HBE.out.trans (hb.mono HBE.out.size))
            clear hb
            (refine hK.out _ _ ?_ (fun hHeld => ?_))
            · exact (HBE.out.cell HGW.out).trans (HCW.out 0 x0 rfl)
            clear hK K
            ((refine takeY 5 (v := ?_) rfl (by kernel_rfl) (by kernel_rfl) (by kernel_rfl) (fun _ _ _ h => h) (by rfl) (by assumption) ?_ ?_; rotate_left; · (intro w hSw; (try dsimp only at hSw); go_simp; (first | done | with_reducible rfl))))
            (try simp only [Act.put, List.setIfInBounds_toArray, List.set_cons_zero, List.set_cons_succ])
            ((refine takeY 6 (v := ?_) rfl (by kernel_rfl) (by kernel_rfl) (by kernel_rfl) (fun _ _ _ h => h) (by rfl) (by assumption) ?_ ?_; rotate_left; · (intro w hSw; (try dsimp only at hSw); go_simp; (first | done | with_reducible rfl))))
            (try simp only [Act.put, List.setIfInBounds_toArray, List.set_cons_zero, List.set_cons_succ])
            (first | (refine takeN 7 rfl (by kernel_rfl) (by kernel_rfl) (by kernel_rfl) (fun _ _ _ h => h) (by rfl) (by assumption) ?_) | (refine takeY 7 (v := ?_) rfl (by kernel_rfl) (by kernel_rfl) (by kernel_rfl) (fun _ _ _ h => h) (by rfl) (by assumption) ?_ ?_; rotate_left; · (intro w hSw; (try dsimp only at hSw); go_simp; (first | done | with_reducible rfl))))
            (try simp only [Act.put, List.setIfInBounds_toArray, List.set_cons_zero, List.set_cons_succ])
            (first | (refine takeN 8 rfl (by kernel_rfl) (by kernel_rfl) (by kernel_rfl) (fun _ _ _ h => h) (by rfl) (by assumption) ?_) | (refine takeY 8 (v := ?_) rfl (by kernel_rfl) (by kernel_rfl) (by kernel_rfl) (fun _ _ _ h => h) (by rfl) (by assumption) ?_ ?_; rotate_left; · (intro w hSw; (try dsimp only at hSw); go_simp; (first | done | with_reducible rfl))))
            (try simp only [Act.put, List.setIfInBounds_toArray, List.set_cons_zero, List.set_cons_succ])
            (first | (refine takeN 9 rfl (by kernel_rfl) (by kernel_rfl) (by kernel_rfl) (fun _ _ _ h => h) (by rfl) (by assumption) ?_) | (refine takeY 9 (v := ?_) rfl (by kernel_rfl) (by kernel_rfl) (by kernel_rfl) (fun _ _ _ h => h) (by rfl) (by assumption) ?_ ?_; rotate_left; · (intro w hSw; (try dsimp only at hSw); go_simp; (first | done | with_reducible rfl))))
            (try simp only [Act.put, List.setIfInBounds_toArray, List.set_cons_zero, List.set_cons_succ])
            (first | (refine takeN 10 rfl (by kernel_rfl) (by kernel_rfl) (by kernel_rfl) (fun _ _ _ h => h) (by rfl) (by assumption) ?_) | (refine takeY 10 (v := ?_) rfl (by kernel_rfl) (by kernel_rfl) (by kernel_rfl) (fun _ _ _ h => h) (by rfl) (by assumption) ?_ ?_; rotate_left; · (intro w hSw; (try dsimp only at hSw); go_simp; (first | done | with_reducible rfl))))
            (try simp only [Act.put, List.setIfInBounds_toArray, List.set_cons_zero, List.set_cons_succ])
            (first | (refine takeN 11 rfl (by kernel_rfl) (by kernel_rfl) (by kernel_rfl) (fun _ _ _ h => h) (by rfl) (by assumption) ?_) | (refine takeY 11 (v := ?_) rfl (by kernel_rfl) (by kernel_rfl) (by kernel_rfl) (fun _ _ _ h => h) (by rfl) (by assumption) ?_ ?_; rotate_left; · (intro w hSw; (try dsimp only at hSw); go_simp; (first | done | with_reducible rfl))))
            (try simp only [Act.put, List.setIfInBounds_toArray, List.set_cons_zero, List.set_cons_succ])
            (first | (refine takeN 12 rfl (by kernel_rfl) (by kernel_rfl) (by kernel_rfl) (fun _ _ _ h => h) (by rfl) (by assumption) ?_) | (refine takeY 12 (v := ?_) rfl (by kernel_rfl) (by kernel_rfl) (by kernel_rfl) (fun _ _ _ h => h) (by rfl) (by assumption) ?_ ?_; rotate_left; · (intro w hSw; (try dsimp only at hSw); go_simp; (first | done | with_reducible rfl))))
            (try simp only [Act.put, List.setIfInBounds_toArray, List.set_cons_zero, List.set_cons_succ])
            ((refine takeY 13 (v := ?_) rfl (by kernel_rfl) (by kernel_rfl) (by kernel_rfl) (fun _ _ _ h => h) (by rfl) (by assumption) ?_ ?_; rotate_left; · (intro w hSw; (try dsimp only at hSw); go_simp; (first | done | with_reducible rfl))))
            (try simp only [Act.put, List.setIfInBounds_toArray, List.set_cons_zero, List.set_cons_succ])
            refine wpAnyH_done (by kernel_rfl) ?_ _
            clear hHeld
            have HCW2 := Lib.hid (fun j x (hj : (x0 :: ws)[j]? = some x) => (show wn.cell? ⟨gw, j, none⟩ = some (bv x) from (HBE.out.cell HGW.out).trans (HCW.out j x hj)))
            have hbx := (Below.refl wn.heap.size wn).alloc (Nat.le_refl _) (.cells #[.int .i64 k, .int .i64 0, .int .u64 0, .int .i64 0, .int .u64 0, .int .i64 0, .bool false, .int .i64 0, .int .i64 0, .int .i64 0, .int .i64 0, .slice none 0 0] 25)
            have HS := Lib.hid (show Blk (wn.alloc (.cells #[.int .i64 k, .int .i64 0, .int .u64 0, .int .i64 0, .int .u64 0, .int .i64 0, .bool false, .int .i64 0, .int .i64 0, .int .i64 0, .int .i64 0, .slice none 0 0] 25)) wn.heap.size 25 (stC ({ kind := k } : St) (.slice none 0 0)) from Blk.new wn _ _)
            have HB2 := Lib.hid (HBE.out.trans (hbx.mono HBE.out.size))
            have HG2 := Lib.hid (show gw < wn.heap.size from Nat.lt_of_lt_of_le HGW.out HBE.out.size)
            have HS2 := Lib.hid (show wn.heap.size < (wn.alloc (.cells #[.int .i64 k, .int .i64 0, .int .u64 0, .int .i64 0, .int .u64 0, .int .i64 0, .bool false, .int .i64 0, .int .i64 0, .int .i64 0, .int .i64 0, .slice none 0 0] 25)).heap.size from by simp)
            have HW1 := Lib.hid (show w1.heap.size ≤ wn.heap.size from HBE.out.size)
            replace HCW2 := Lib.hid (fun j x (hj : (x0 :: ws)[j]? = some x) => (show (wn.alloc (.cells #[.int .i64 k, .int .i64 0, .int .u64 0, .int .i64 0, .int .u64 0, .int .i64 0, .bool false, .int .i64 0, .int .i64 0, .int .i64 0, .int .i64 0, .slice none 0 0] 25)).cell? ⟨gw, j, none⟩ = some (bv x) from (hbx.cell HG2.out).trans (HCW2.out j x hj)))
            clear hbx
            go_upto_region 10 with fail
            generalize wn.alloc (.cells #[.int .i64 k, .int .i64 0, .int .u64 0, .int .i64 0, .int .u64 0, .int .i64 0, .bool false, .int .i64 0, .int .i64 0, .int .i64 0, .int .i64 0, .slice none 0 0] 25) = w2 at *
            generalize wn.heap.size = sb at *
            clear HBE
            go_wp2_with fail
            go_loopw [8] (RpI w2 sb k fs ws) (fun v _ => m - cntZ v)
            case atStart => exact ⟨0, .slice none 0 0, rfl, Nat.zero_le _, by cases fs <;> exact HS.out, World.ownsRow_nil _ _ _ _, .inr ⟨rfl, by cases fs <;> rfl⟩, by cases fs <;> exact Nat.zero_le _, Below.refl _ _⟩
            case round =>
              clear HS
              obtain ⟨i, F, rfl, hi, hS, hW, hF, hfl9, hbe⟩ := hrel
              have HS := Lib.hid hS
              have HW := Lib.hid hW
              have HBE := Lib.hid hbe
              have HF := Lib.hid hF
              have him : i ≤ m := by rw [← HM.out]; exact hi
              have HOK := Lib.hid (setAllR_ok (fs.take i) (ws.take i) { kind := k } (St.ok0 k ⟨by omega, by omega⟩))
              clear hS hW hbe hF hi
              obtain ⟨d, hd⟩ : ∃ d, setAllR { kind := k } (fs.take i) (ws.take i) = d := ⟨_, rfl⟩
              have HD := Lib.hid hd
              rw [hd] at HS HW HF hfl9 HOK
              clear hd
              obtain ⟨FA, Fc, rfl⟩ := HW.out.form
              by_cases hin : i < m
              · have g3 : decide ((i : Int) < (m : Int)) = true := by simp; exact hin
                have g3' : decide (i < m) = true := by simp; exact hin
                obtain ⟨c, hc⟩ : ∃ c, fs[i]? = some c := ⟨_, List.getElem?_eq_getElem (by rw [HM.out]; exact hin)⟩
                have hwsl : ws.length = m := by
                  have h8 := HNW.out
                  have h9 := HLN.out
                  rw [List.length_cons] at h8
                  omega
                obtain ⟨x, hx⟩ : ∃ x, ws[i]? = some x := ⟨_, List.getElem?_eq_getElem (by omega)⟩
                have HC := Lib.hid hc
                have HX := Lib.hid hx
                have hxl : x.length ≤ 1100 := by
                  have := cutL_len 32 l x (by rw [HWS.out]; exact List.mem_cons_of_mem _ (List.mem_of_getElem? hx))
                  omega
                have hsz : i < (⟨f.toArray⟩ : ByteArray).size := (show i < f.length by omega)
                have HXB := Lib.hid (show (⟨f.toArray⟩ : ByteArray)[i]'hsz = rcd c from HFG.out i c hc (by omega))
                have HF1 := Lib.hid (show ∀ j, j < i → fs[j]? = some .f → False from fun j hj e => by
                  have hk3 : k = 31 := Classical.byContradiction fun e9 => (kd_f HKD.out).2 e9 (List.mem_of_getElem? e)
                  have h9 := (kd_f HKD.out).1 hk3
                  have := HM.out
                  rw [h9] at this
                  simp at this
                  omega)
                have HRF := Lib.hid (show Value.slice FA d.fails.length Fc = .slice none 0 0 ∧ d.fails = [] from by
                  rcases HF.out with ⟨j, hj, e⟩ | h
                  · exact (HF1.out j hj e).elim
                  · exact h)
                have hwr2 : IntKind.i64.wrap ((i : Int) + 1) = (i : Int) + 1 := IntWalk.i64_in _ (by omega)
                have hin3 : i + 1 < nw := by have := HLN.out; omega
                have hin4 : (i : Int) + 1 < (nw : Int) := by omega
                have hin5 : (0 : Int) ≤ (i : Int) + 1 := by omega
                have HCX := Lib.hid (show wr.cell? ⟨gw, i + 1, none⟩ = some (bv x) from (HBE.out.cell HG2.out).trans (HCW2.out (i + 1) x hx))
                clear hc hx
                go_upto_region 13 with fail
                refine beginZ (z := 10) (S := (fun w' => (w'.cell? ⟨sb, 0, none⟩ = some (.int .i64 d.kind) ∧ w'.cell? ⟨sb, 1, none⟩ = some (.int .i64 d.guest) ∧ w'.cell? ⟨sb, 2, none⟩ = some (.int .u64 d.addr) ∧ w'.cell? ⟨sb, 3, none⟩ = some (.int .i64 d.size) ∧ w'.cell? ⟨sb, 4, none⟩ = some (.int .u64 d.value) ∧ w'.cell? ⟨sb, 5, none⟩ = some (.int .i64 d.page) ∧ w'.cell? ⟨sb, 6, none⟩ = some (.bool d.on) ∧ w'.cell? ⟨sb, 7, none⟩ = some (.int .i64 d.asid) ∧ w'.cell? ⟨sb, 8, none⟩ = some (.int .i64 d.what) ∧ w'.cell? ⟨sb, 9, none⟩ = some (.int .i64 d.set) ∧ w'.cell? ⟨sb, 10, none⟩ = some (.int .i64 d.way) ∧ w'.cell? ⟨sb, 11, none⟩ = some ((.slice FA d.fails.length Fc))) ∧ w'.cell? ⟨gw, i + 1, none⟩ = some (bv x))) (by kernel_rfl) ?_ (fun hHeld => ?_)
                · exact ⟨stC_cells HS.out, HCX.out⟩
                replace HS := Lib.hid (show Blk wr.drew sb 25 _ from HS.out)
                replace HW := Lib.hid (own_below HW.out (Below.refl _ _).drew)
                replace HBE := Lib.hid (HBE.out.drew)
                replace HCX := Lib.hid (show wr.drew.cell? ⟨gw, i + 1, none⟩ = some (bv x) from HCX.out)
                generalize wr.drew = w3 at *
                ((refine takeYZ 0 (by kernel_rfl) (v := ?_) rfl (by kernel_rfl) (by kernel_rfl) (by kernel_rfl) (fun _ _ _ h => h) (by rfl) (by assumption) ?_ ?_; rotate_left; · (intro w hSw; (try dsimp only at hSw); go_simp; (first | done | with_reducible rfl))))
                (try simp only [Act.put, List.setIfInBounds_toArray, List.set_cons_zero, List.set_cons_succ])
                ((refine takeYZ 1 (by kernel_rfl) (v := ?_) rfl (by kernel_rfl) (by kernel_rfl) (by kernel_rfl) (fun _ _ _ h => h) (by rfl) (by assumption) ?_ ?_; rotate_left; · (intro w hSw; (try dsimp only at hSw); go_simp; (first | done | with_reducible rfl))))
                (try simp only [Act.put, List.setIfInBounds_toArray, List.set_cons_zero, List.set_cons_succ])
                ((refine takeYZ 2 (by kernel_rfl) (v := ?_) rfl (by kernel_rfl) (by kernel_rfl) (by kernel_rfl) (fun _ _ _ h => h) (by rfl) (by assumption) ?_ ?_; rotate_left; · (intro w hSw; (try dsimp only at hSw); go_simp; (first | done | with_reducible rfl))))
                (try simp only [Act.put, List.setIfInBounds_toArray, List.set_cons_zero, List.set_cons_succ])
                ((refine takeYZ 3 (by kernel_rfl) (v := ?_) rfl (by kernel_rfl) (by kernel_rfl) (by kernel_rfl) (fun _ _ _ h => h) (by rfl) (by assumption) ?_ ?_; rotate_left; · (intro w hSw; (try dsimp only at hSw); go_simp; (first | done | with_reducible rfl))))
                (try simp only [Act.put, List.setIfInBounds_toArray, List.set_cons_zero, List.set_cons_succ])
                ((refine takeYZ 4 (by kernel_rfl) (v := ?_) rfl (by kernel_rfl) (by kernel_rfl) (by kernel_rfl) (fun _ _ _ h => h) (by rfl) (by assumption) ?_ ?_; rotate_left; · (intro w hSw; (try dsimp only at hSw); go_simp; (first | done | with_reducible rfl))))
                (try simp only [Act.put, List.setIfInBounds_toArray, List.set_cons_zero, List.set_cons_succ])
                ((refine takeYZ 5 (by kernel_rfl) (v := ?_) rfl (by kernel_rfl) (by kernel_rfl) (by kernel_rfl) (fun _ _ _ h => h) (by rfl) (by assumption) ?_ ?_; rotate_left; · (intro w hSw; (try dsimp only at hSw); go_simp; (first | done | with_reducible rfl))))
                (try simp only [Act.put, List.setIfInBounds_toArray, List.set_cons_zero, List.set_cons_succ])
                ((refine takeYZ 6 (by kernel_rfl) (v := ?_) rfl (by kernel_rfl) (by kernel_rfl) (by kernel_rfl) (fun _ _ _ h => h) (by rfl) (by assumption) ?_ ?_; rotate_left; · (intro w hSw; (try dsimp only at hSw); go_simp; (first | done | with_reducible rfl))))
                (try simp only [Act.put, List.setIfInBounds_toArray, List.set_cons_zero, List.set_cons_succ])
                ((refine takeYZ 7 (by kernel_rfl) (v := ?_) rfl (by kernel_rfl) (by kernel_rfl) (by kernel_rfl) (fun _ _ _ h => h) (by rfl) (by assumption) ?_ ?_; rotate_left; · (intro w hSw; (try dsimp only at hSw); go_simp; (first | done | with_reducible rfl))))
                (try simp only [Act.put, List.setIfInBounds_toArray, List.set_cons_zero, List.set_cons_succ])
                ((refine takeYZ 8 (by kernel_rfl) (v := ?_) rfl (by kernel_rfl) (by kernel_rfl) (by kernel_rfl) (fun _ _ _ h => h) (by rfl) (by assumption) ?_ ?_; rotate_left; · (intro w hSw; (try dsimp only at hSw); go_simp; (first | done | with_reducible rfl))))
                (try simp only [Act.put, List.setIfInBounds_toArray, List.set_cons_zero, List.set_cons_succ])
                refine stepZ 9 rfl (by kernel_rfl) (by rfl) (fun K hK => ?_)
                go_simp
                rw [HXB.out]
                refine (rset d c _ x (by omega) (sb + 1) HS.out.lt HW.out (fun _ => HRF.out)).mono ?_; rintro e wn2 ⟨F2, hf2, rfl, hw9, hb⟩
                obtain ⟨d2, hd2⟩ : ∃ e, setR d c x = e := ⟨_, rfl⟩
                rw [hd2] at hw9 ⊢
                have HD2 := Lib.hid hd2
                have HF2 := Lib.hid hf2
                replace HW := Lib.hid hw9
                replace HS := Lib.hid (HS.out.below hb (Nat.lt_succ_self sb))
                replace HBE := Lib.hid (HBE.out.trans (hb.mono (Nat.le_succ _)))
                replace HCX := Lib.hid ((hb.cell (Nat.lt_succ_of_lt HG2.out)).trans HCX.out)
                clear hd2 hf2 hw9 hb
                obtain ⟨FA2, Fc2, rfl⟩ := HW.out.form
                (refine hK.out _ _ ?_ (fun hHeld => ?_))
                · exact ⟨stC_cells HS.out, HCX.out⟩
                clear hK K
                refine endZ rfl (by kernel_rfl) (by kernel_rfl) (by rfl) (fun K hK => ?_)
                clear hHeld
                refine wp_store_row 25 _ _ rfl sb (stC d2 (.slice FA2 d2.fails.length Fc2)) rfl rfl 25 _ HS.out (by kernel_rfl) (by kernel_rfl) (by kernel_rfl) ?_
                refine hK.out _ _ ?_
                clear hK K
                have HBS := Lib.hid (show Blk (wn2.setRow sb (stC d2 (.slice FA2 d2.fails.length Fc2))) sb 25 (stC d2 (.slice FA2 d2.fails.length Fc2)) from setRow_heap wn2 sb _ _ 25 (0, 0) HS.out)
                have HOS := Lib.hid (show Only (fun g => g = sb) wn2 (wn2.setRow sb (stC d2 (.slice FA2 d2.fails.length Fc2))) from ⟨rfl, rfl, rfl, by simp, fun k hk hn9 => setRow_other wn2 sb k _ hn9⟩)
                generalize wn2.setRow sb (stC d2 (.slice FA2 d2.fails.length Fc2)) = w9 at *
                go_wp2
                have e9 : setAllR { kind := k } (fs.take (i + 1)) (ws.take (i + 1)) = d2 := by rw [setAllR_snoc _ _ _ _ _ _ HC.out HX.out, HD.out]; exact HD2.out
                have h8 := setR_fails d c x
                rw [HD2.out] at h8
                refine ⟨⟨i + 1, .slice FA2 d2.fails.length Fc2, by go_num, by rw [HM.out]; omega, ?_, ?_, ?_, ?_, ?_⟩, cntZ_lt hin⟩
                · rw [e9]; exact HBS.out
                · rw [e9]; exact own_only HW.out HOS.out (fun k hk => by omega)
                · rw [e9]
                  by_cases hcf : c = .f
                  · exact .inl ⟨i, Nat.lt_succ_self i, by rw [HC.out, hcf]⟩
                  · exact .inr ⟨(HF2.out hcf).trans HRF.out.1, (h8.2 hcf).trans HRF.out.2⟩
                · rw [e9]
                  have := h8.1
                  rw [HRF.out.2] at this
                  simp at this
                  omega
                · exact HBE.out.trans (HOS.out.to_below (fun k hk => by omega) (by have := HS.out.lt; omega))
              · obtain rfl : i = m := by omega
                have g3 : decide ((i : Int) < (i : Int)) = false := by simp
                have hwsl : ws.length = i := by
                  have h8 := HNW.out
                  have h9 := HLN.out
                  rw [List.length_cons] at h8
                  omega
                have HCN := Lib.hid (show candR k (cutL 32 l) = some d from by
                  unfold candR
                  rw [HKD.out, HWS.out]
                  dsimp only
                  rw [if_pos ⟨by rw [HXW.out]; rfl, by have := HM.out; rw [List.length_cons]; omega⟩, List.tail_cons]
                  have h8 := HD.out
                  rw [List.take_of_length_le (by rw [HM.out]; exact Nat.le_refl _), List.take_of_length_le (by omega)] at h8
                  rw [h8])
                have cs1 := stC_cells HS.out
                obtain ⟨t, ec, hte⟩ : ∃ t e, TextS d = (t, e) := ⟨_, _, rfl⟩
                have HTE := Lib.hid hte
                have hfl6 : d.fails.length ≤ 10000 := by omega
                clear hte hwsl
                go_wp2_with fail
                refine (rtext d HOK.out.1 _ wr ⟨FA, Fc, rfl, Reads.of_own HW.out⟩ (by omega)).mono ?_; rintro e w4 ⟨rfl, hb⟩
                rw [HTE.out]
                dsimp only
                have HBT := Lib.hid (HB2.out.trans ((HBE.out.mono HW1.out).trans (hb.mono (Nat.le_trans HB2.out.size (HBE.out.mono HW1.out).size))))
                replace HS := Lib.hid (HS.out.below hb HS.out.lt)
                replace HW := Lib.hid (own_below HW.out hb)
                clear hb cs1
                by_cases hec : ec = 0
                · have q0 : (ec == 0) = true := by simp; exact hec
                  by_cases htl : t = l
                  · have q1 : (t == l) = true := by simpa using htl
                    have HIT := Lib.hid (textS_ok (by rw [HTE.out, hec, htl]))
                    have HR9 := Lib.hid (HRB.out.below HBT.out HRL.out)
                    clear hec htl
                    go_upto_region 16 with fail
                    rename_i hK
                    apply wp_region_lit
                    refine wpList_load_row rfl 25 _ rfl sb rfl 25 _ (0, 0) _ HS.out Tryd.underlying25 rfl (by kernel_rfl) ?_
                    (try simp only [Act.put, List.setIfInBounds_toArray, List.set_cons_zero, List.set_cons_succ])
                    refine wpList_store_rowTo rfl 25 _ _ rfl rfl w.heap.size _ rfl rfl 25 _ HR9.out (by kernel_rfl) (by kernel_rfl) (by kernel_rfl) ?_
                    refine wlV1 (v := .int .i64 0) (by kernel_rfl) (by kernel_rfl) ?_
                    (try simp only [Act.put, List.setIfInBounds_toArray, List.set_cons_zero, List.set_cons_succ])
                    refine wpList_nil ?_
                    refine hK _ _ ?_
                    apply wp_ret
                    refine bodyPost_ret (results_cell_row_tmp rfl _ _ w.heap.size 25 _ (0, 0) _ rfl (setRow_heap _ w.heap.size _ _ 25 (0, 0) HR9.out) Tryd.underlying25 rfl (by kernel_rfl)) rfl ?_
                    refine ⟨d, .slice FA d.fails.length Fc, 0, rfl, .is hls HOK.out.1.towf HIT.out, HOK.out.1, ?_, by omega, below_setRow (HB1.out.trans (HBT.out.mono HB1.out.size)) (Nat.le_refl _) _⟩
                    have ho8 : Only (fun g => g = w.heap.size) w4 (w4.setRow w.heap.size (stC d (.slice FA d.fails.length Fc))) := ⟨rfl, rfl, rfl, by simp, fun k hk hn9 => setRow_other w4 w.heap.size k _ hn9⟩
                    exact ownsRow_mono (own_only HW.out ho8 (fun k hk => by have := HRL.out; have := HW1.out; omega)) (by have := HRL.out; have := HW1.out; omega)
                  · have q1 : (t == l) = false := by simpa using htl
                    have HNI := Lib.hid (show ¬ IsT d l from fun h => htl (by have := textS_of h; rw [HTE.out] at this; injection this))
                    clear hec htl
                    go_wp2
                    go_roundw
                    case rel => exact ⟨k + 1, by go_num, by omega, by omega, HBT.out, fun j s h1 h2 hc => by
                      by_cases e : j = k
                      · subst e; rw [HCN.out] at hc; injection hc with hc; subst hc; exact HNI.out
                      · exact HNO.out j s h1 (by omega) hc⟩
                    case measure => simp [cntZ]; omega
                · have q0 : (ec == 0) = false := by simp; exact hec
                  have HNI := Lib.hid (show ¬ IsT d l from fun h => hec (by have := textS_of h; rw [HTE.out] at this; injection this))
                  clear hec
                  go_wp2
                  go_roundw
                  case rel => exact ⟨k + 1, by go_num, by omega, by omega, HBT.out, fun j s h1 h2 hc => by
                    by_cases e : j = k
                    · subst e; rw [HCN.out] at hc; injection hc with hc; subst hc; exact HNI.out
                    · exact HNO.out j s h1 (by omega) hc⟩
                  case measure => simp [cntZ]; omega
          · have ql : ((nw : Int) == ((m : Int) + 1)) = false := by simp; omega
            have ql' : ((nw : Int) != ((m : Int) + 1)) = true := by simp; omega
            have HCN := Lib.hid (show candR k (cutL 32 l) = none from by
              unfold candR
              rw [HKD.out, HWS.out]
              dsimp only
              rw [if_neg (fun h => hlen (by have := HNW.out; have := HM.out; omega))])
            clear hx0 hlen
            go_upto_region 8 with fail
            refine wp_region_held_drew (S := (fun w' => w'.cell? ⟨gw, 0, none⟩ = some (bv x0))) (by kernel_rfl) ?_ (fun hHeld => ?_)
            · exact (HBE.out.cell HGW.out).trans (HCW.out 0 x0 rfl)
            replace HBE := Lib.hid (HBE.out.drew)
            generalize wr.drew = wc at *
            ((refine takeY 0 (v := ?_) rfl (by kernel_rfl) (by kernel_rfl) (by kernel_rfl) (fun _ _ _ h => h) (by rfl) (by assumption) ?_ ?_; rotate_left; · (intro w hSw; (try dsimp only at hSw); go_simp; (first | done | with_reducible rfl))))
            (try simp only [Act.put, List.setIfInBounds_toArray, List.set_cons_zero, List.set_cons_succ])
            ((refine takeY 1 (v := ?_) rfl (by kernel_rfl) (by kernel_rfl) (by kernel_rfl) (fun _ _ _ h => h) (by rfl) (by assumption) ?_ ?_; rotate_left; · (intro w hSw; (try dsimp only at hSw); go_simp; (first | done | with_reducible rfl))))
            (try simp only [Act.put, List.setIfInBounds_toArray, List.set_cons_zero, List.set_cons_succ])
            ((refine takeY 2 (v := ?_) rfl (by kernel_rfl) (by kernel_rfl) (by kernel_rfl) (fun _ _ _ h => h) (by rfl) (by assumption) ?_ ?_; rotate_left; · (intro w hSw; (try dsimp only at hSw); go_simp; (first | done | with_reducible rfl))))
            (try simp only [Act.put, List.setIfInBounds_toArray, List.set_cons_zero, List.set_cons_succ])
            ((refine takeY 3 (v := ?_) rfl (by kernel_rfl) (by kernel_rfl) (by kernel_rfl) (fun _ _ _ h => h) (by rfl) (by assumption) ?_ ?_; rotate_left; · (intro w hSw; (try dsimp only at hSw); go_simp; (first | done | with_reducible rfl))))
            (try simp only [Act.put, List.setIfInBounds_toArray, List.set_cons_zero, List.set_cons_succ])
            refine stepH 4 rfl (by kernel_rfl) (by rfl) (fun K hK => ?_)
            go_simp
            refine (HNm.out _).mono ?_; rintro e wn ⟨rfl, hb⟩
            replace HBE := Lib.hid (HBE.out.trans (hb.mono HBE.out.size))
            clear hb
            (refine hK.out _ _ ?_ (fun hHeld => ?_))
            · exact (HBE.out.cell HGW.out).trans (HCW.out 0 x0 rfl)
            clear hK K
            ((refine takeY 5 (v := ?_) rfl (by kernel_rfl) (by kernel_rfl) (by kernel_rfl) (fun _ _ _ h => h) (by rfl) (by assumption) ?_ ?_; rotate_left; · (intro w hSw; (try dsimp only at hSw); go_simp; (first | done | with_reducible rfl))))
            (try simp only [Act.put, List.setIfInBounds_toArray, List.set_cons_zero, List.set_cons_succ])
            ((refine takeY 6 (v := ?_) rfl (by kernel_rfl) (by kernel_rfl) (by kernel_rfl) (fun _ _ _ h => h) (by rfl) (by assumption) ?_ ?_; rotate_left; · (intro w hSw; (try dsimp only at hSw); go_simp; (first | done | with_reducible rfl))))
            (try simp only [Act.put, List.setIfInBounds_toArray, List.set_cons_zero, List.set_cons_succ])
            (first | (refine takeN 7 rfl (by kernel_rfl) (by kernel_rfl) (by kernel_rfl) (fun _ _ _ h => h) (by rfl) (by assumption) ?_) | (refine takeY 7 (v := ?_) rfl (by kernel_rfl) (by kernel_rfl) (by kernel_rfl) (fun _ _ _ h => h) (by rfl) (by assumption) ?_ ?_; rotate_left; · (intro w hSw; (try dsimp only at hSw); go_simp; (first | done | with_reducible rfl))))
            (try simp only [Act.put, List.setIfInBounds_toArray, List.set_cons_zero, List.set_cons_succ])
            (first | (refine takeN 8 rfl (by kernel_rfl) (by kernel_rfl) (by kernel_rfl) (fun _ _ _ h => h) (by rfl) (by assumption) ?_) | (refine takeY 8 (v := ?_) rfl (by kernel_rfl) (by kernel_rfl) (by kernel_rfl) (fun _ _ _ h => h) (by rfl) (by assumption) ?_ ?_; rotate_left; · (intro w hSw; (try dsimp only at hSw); go_simp; (first | done | with_reducible rfl))))
            (try simp only [Act.put, List.setIfInBounds_toArray, List.set_cons_zero, List.set_cons_succ])
            (first | (refine takeN 9 rfl (by kernel_rfl) (by kernel_rfl) (by kernel_rfl) (fun _ _ _ h => h) (by rfl) (by assumption) ?_) | (refine takeY 9 (v := ?_) rfl (by kernel_rfl) (by kernel_rfl) (by kernel_rfl) (fun _ _ _ h => h) (by rfl) (by assumption) ?_ ?_; rotate_left; · (intro w hSw; (try dsimp only at hSw); go_simp; (first | done | with_reducible rfl))))
            (try simp only [Act.put, List.setIfInBounds_toArray, List.set_cons_zero, List.set_cons_succ])
            (first | (refine takeN 10 rfl (by kernel_rfl) (by kernel_rfl) (by kernel_rfl) (fun _ _ _ h => h) (by rfl) (by assumption) ?_) | (refine takeY 10 (v := ?_) rfl (by kernel_rfl) (by kernel_rfl) (by kernel_rfl) (fun _ _ _ h => h) (by rfl) (by assumption) ?_ ?_; rotate_left; · (intro w hSw; (try dsimp only at hSw); go_simp; (first | done | with_reducible rfl))))
            (try simp only [Act.put, List.setIfInBounds_toArray, List.set_cons_zero, List.set_cons_succ])
            (first | (refine takeN 11 rfl (by kernel_rfl) (by kernel_rfl) (by kernel_rfl) (fun _ _ _ h => h) (by rfl) (by assumption) ?_) | (refine takeY 11 (v := ?_) rfl (by kernel_rfl) (by kernel_rfl) (by kernel_rfl) (fun _ _ _ h => h) (by rfl) (by assumption) ?_ ?_; rotate_left; · (intro w hSw; (try dsimp only at hSw); go_simp; (first | done | with_reducible rfl))))
            (try simp only [Act.put, List.setIfInBounds_toArray, List.set_cons_zero, List.set_cons_succ])
            (first | (refine takeN 12 rfl (by kernel_rfl) (by kernel_rfl) (by kernel_rfl) (fun _ _ _ h => h) (by rfl) (by assumption) ?_) | (refine takeY 12 (v := ?_) rfl (by kernel_rfl) (by kernel_rfl) (by kernel_rfl) (fun _ _ _ h => h) (by rfl) (by assumption) ?_ ?_; rotate_left; · (intro w hSw; (try dsimp only at hSw); go_simp; (first | done | with_reducible rfl))))
            (try simp only [Act.put, List.setIfInBounds_toArray, List.set_cons_zero, List.set_cons_succ])
            ((refine takeY 13 (v := ?_) rfl (by kernel_rfl) (by kernel_rfl) (by kernel_rfl) (fun _ _ _ h => h) (by rfl) (by assumption) ?_ ?_; rotate_left; · (intro w hSw; (try dsimp only at hSw); go_simp; (first | done | with_reducible rfl))))
            (try simp only [Act.put, List.setIfInBounds_toArray, List.set_cons_zero, List.set_cons_succ])
            refine wpAnyH_done (by kernel_rfl) ?_ _
            clear hHeld
            go_wp2
            exact ⟨⟨k + 1, by go_num, by omega, by omega, HBE.out, fun j s h1 h2 hc => by
              by_cases e : j = k
              · subst e; rw [HCN.out] at hc; cases hc
              · exact HNO.out j s h1 (by omega) hc⟩, cntZ_lt (by omega)⟩
        · have qx : (x0 == w0s) = false := by simpa using hx0
          have qx' : (x0 != w0s) = true := by simp; exact hx0
          have HCN := Lib.hid (show candR k (cutL 32 l) = none from by
            unfold candR
            rw [HKD.out, HWS.out]
            dsimp only
            rw [if_neg (fun h => hx0 (Option.some.inj h.1))])
          clear hx0
          go_upto_region 8 with fail
          refine wp_region_held_drew (S := (fun w' => w'.cell? ⟨gw, 0, none⟩ = some (bv x0))) (by kernel_rfl) ?_ (fun hHeld => ?_)
          · exact (HBE.out.cell HGW.out).trans (HCW.out 0 x0 rfl)
          replace HBE := Lib.hid (HBE.out.drew)
          generalize wr.drew = wc at *
          ((refine takeY 0 (v := ?_) rfl (by kernel_rfl) (by kernel_rfl) (by kernel_rfl) (fun _ _ _ h => h) (by rfl) (by assumption) ?_ ?_; rotate_left; · (intro w hSw; (try dsimp only at hSw); go_simp; (first | done | with_reducible rfl))))
          (try simp only [Act.put, List.setIfInBounds_toArray, List.set_cons_zero, List.set_cons_succ])
          ((refine takeY 1 (v := ?_) rfl (by kernel_rfl) (by kernel_rfl) (by kernel_rfl) (fun _ _ _ h => h) (by rfl) (by assumption) ?_ ?_; rotate_left; · (intro w hSw; (try dsimp only at hSw); go_simp; (first | done | with_reducible rfl))))
          (try simp only [Act.put, List.setIfInBounds_toArray, List.set_cons_zero, List.set_cons_succ])
          ((refine takeY 2 (v := ?_) rfl (by kernel_rfl) (by kernel_rfl) (by kernel_rfl) (fun _ _ _ h => h) (by rfl) (by assumption) ?_ ?_; rotate_left; · (intro w hSw; (try dsimp only at hSw); go_simp; (first | done | with_reducible rfl))))
          (try simp only [Act.put, List.setIfInBounds_toArray, List.set_cons_zero, List.set_cons_succ])
          ((refine takeY 3 (v := ?_) rfl (by kernel_rfl) (by kernel_rfl) (by kernel_rfl) (fun _ _ _ h => h) (by rfl) (by assumption) ?_ ?_; rotate_left; · (intro w hSw; (try dsimp only at hSw); go_simp; (first | done | with_reducible rfl))))
          (try simp only [Act.put, List.setIfInBounds_toArray, List.set_cons_zero, List.set_cons_succ])
          refine stepH 4 rfl (by kernel_rfl) (by rfl) (fun K hK => ?_)
          go_simp
          refine (HNm.out _).mono ?_; rintro e wn ⟨rfl, hb⟩
          replace HBE := Lib.hid (HBE.out.trans (hb.mono HBE.out.size))
          clear hb
          (refine hK.out _ _ ?_ (fun hHeld => ?_))
          · exact (HBE.out.cell HGW.out).trans (HCW.out 0 x0 rfl)
          clear hK K
          ((refine takeY 5 (v := ?_) rfl (by kernel_rfl) (by kernel_rfl) (by kernel_rfl) (fun _ _ _ h => h) (by rfl) (by assumption) ?_ ?_; rotate_left; · (intro w hSw; (try dsimp only at hSw); go_simp; (first | done | with_reducible rfl))))
          (try simp only [Act.put, List.setIfInBounds_toArray, List.set_cons_zero, List.set_cons_succ])
          ((refine takeY 6 (v := ?_) rfl (by kernel_rfl) (by kernel_rfl) (by kernel_rfl) (fun _ _ _ h => h) (by rfl) (by assumption) ?_ ?_; rotate_left; · (intro w hSw; (try dsimp only at hSw); go_simp; (first | done | with_reducible rfl))))
          (try simp only [Act.put, List.setIfInBounds_toArray, List.set_cons_zero, List.set_cons_succ])
          (first | (refine takeN 7 rfl (by kernel_rfl) (by kernel_rfl) (by kernel_rfl) (fun _ _ _ h => h) (by rfl) (by assumption) ?_) | (refine takeY 7 (v := ?_) rfl (by kernel_rfl) (by kernel_rfl) (by kernel_rfl) (fun _ _ _ h => h) (by rfl) (by assumption) ?_ ?_; rotate_left; · (intro w hSw; (try dsimp only at hSw); go_simp; (first | done | with_reducible rfl))))
          (try simp only [Act.put, List.setIfInBounds_toArray, List.set_cons_zero, List.set_cons_succ])
          (first | (refine takeN 8 rfl (by kernel_rfl) (by kernel_rfl) (by kernel_rfl) (fun _ _ _ h => h) (by rfl) (by assumption) ?_) | (refine takeY 8 (v := ?_) rfl (by kernel_rfl) (by kernel_rfl) (by kernel_rfl) (fun _ _ _ h => h) (by rfl) (by assumption) ?_ ?_; rotate_left; · (intro w hSw; (try dsimp only at hSw); go_simp; (first | done | with_reducible rfl))))
          (try simp only [Act.put, List.setIfInBounds_toArray, List.set_cons_zero, List.set_cons_succ])
          (first | (refine takeN 9 rfl (by kernel_rfl) (by kernel_rfl) (by kernel_rfl) (fun _ _ _ h => h) (by rfl) (by assumption) ?_) | (refine takeY 9 (v := ?_) rfl (by kernel_rfl) (by kernel_rfl) (by kernel_rfl) (fun _ _ _ h => h) (by rfl) (by assumption) ?_ ?_; rotate_left; · (intro w hSw; (try dsimp only at hSw); go_simp; (first | done | with_reducible rfl))))
          (try simp only [Act.put, List.setIfInBounds_toArray, List.set_cons_zero, List.set_cons_succ])
          (first | (refine takeN 10 rfl (by kernel_rfl) (by kernel_rfl) (by kernel_rfl) (fun _ _ _ h => h) (by rfl) (by assumption) ?_) | (refine takeY 10 (v := ?_) rfl (by kernel_rfl) (by kernel_rfl) (by kernel_rfl) (fun _ _ _ h => h) (by rfl) (by assumption) ?_ ?_; rotate_left; · (intro w hSw; (try dsimp only at hSw); go_simp; (first | done | with_reducible rfl))))
          (try simp only [Act.put, List.setIfInBounds_toArray, List.set_cons_zero, List.set_cons_succ])
          (first | (refine takeN 11 rfl (by kernel_rfl) (by kernel_rfl) (by kernel_rfl) (fun _ _ _ h => h) (by rfl) (by assumption) ?_) | (refine takeY 11 (v := ?_) rfl (by kernel_rfl) (by kernel_rfl) (by kernel_rfl) (fun _ _ _ h => h) (by rfl) (by assumption) ?_ ?_; rotate_left; · (intro w hSw; (try dsimp only at hSw); go_simp; (first | done | with_reducible rfl))))
          (try simp only [Act.put, List.setIfInBounds_toArray, List.set_cons_zero, List.set_cons_succ])
          (first | (refine takeN 12 rfl (by kernel_rfl) (by kernel_rfl) (by kernel_rfl) (fun _ _ _ h => h) (by rfl) (by assumption) ?_) | (refine takeY 12 (v := ?_) rfl (by kernel_rfl) (by kernel_rfl) (by kernel_rfl) (fun _ _ _ h => h) (by rfl) (by assumption) ?_ ?_; rotate_left; · (intro w hSw; (try dsimp only at hSw); go_simp; (first | done | with_reducible rfl))))
          (try simp only [Act.put, List.setIfInBounds_toArray, List.set_cons_zero, List.set_cons_succ])
          ((refine takeY 13 (v := ?_) rfl (by kernel_rfl) (by kernel_rfl) (by kernel_rfl) (fun _ _ _ h => h) (by rfl) (by assumption) ?_ ?_; rotate_left; · (intro w hSw; (try dsimp only at hSw); go_simp; (first | done | with_reducible rfl))))
          (try simp only [Act.put, List.setIfInBounds_toArray, List.set_cons_zero, List.set_cons_succ])
          refine wpAnyH_done (by kernel_rfl) ?_ _
          clear hHeld
          go_wp2
          exact ⟨⟨k + 1, by go_num, by omega, by omega, HBE.out, fun j s h1 h2 hc => by
            by_cases e : j = k
            · subst e; rw [HCN.out] at hc; cases hc
            · exact HNO.out j s h1 (by omega) hc⟩, cntZ_lt (by omega)⟩
      · obtain rfl : k = 33 := by omega
        have HN := Lib.hid (show ∀ s : St, s.wf → ¬ IsT s l from fun s hs h => by
          obtain ⟨j, w0, fs, vs, e1, e2, e3, e4, e5, e6, e7, _⟩ := isT_cand hs h
          refine HNO.out j s e2 (by omega) ?_ h
          unfold candR
          rw [e4, e6]
          dsimp only
          rw [if_pos ⟨rfl, by rw [List.length_cons, e5]⟩, List.tail_cons, e7])
        have hr9 := HRB.out.below HBE.out HRL.out
        have HR9 := Lib.hid hr9
        clear hr9
        go_upto_region 17 with fail
        rename_i hK
        apply wp_region_lit
        refine wlV1 (v := .agg #[.int .i64 0, .int .i64 0, .int .u64 0, .int .i64 0, .int .u64 0, .int .i64 0, .bool false, .int .i64 0, .int .i64 0, .int .i64 0, .int .i64 0, .slice none 0 0]) (by kernel_rfl) (by kernel_rfl) ?_
        (try simp only [Act.put, List.setIfInBounds_toArray, List.set_cons_zero, List.set_cons_succ])
        refine wpList_store_rowTo rfl 25 _ _ rfl rfl w.heap.size _ rfl rfl 25 _ HR9.out (by kernel_rfl) (by kernel_rfl) (by kernel_rfl) ?_
        refine wlV1 (v := .int .i64 4) (by kernel_rfl) (by kernel_rfl) ?_
        (try simp only [Act.put, List.setIfInBounds_toArray, List.set_cons_zero, List.set_cons_succ])
        refine wpList_nil ?_
        refine hK _ _ ?_
        apply wp_ret
        refine bodyPost_ret (results_cell_row_tmp rfl _ _ w.heap.size 25 _ (0, 0) _ rfl (setRow_heap _ w.heap.size _ _ 25 (0, 0) HR9.out) Tryd.underlying25 rfl (by kernel_rfl)) rfl ?_
        exact ⟨{}, .slice none 0 0, 4, rfl, .none hls HN.out, St.ok0 0 ⟨by decide, by decide⟩, World.ownsRow_nil _ _ _ _, by simp, below_setRow (HB1.out.trans (HBE.out.mono HB1.out.size)) (Nat.le_refl _) _⟩
end Go.Proofs.YtjofegjiakjjhaaDoor
