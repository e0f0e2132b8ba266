/- IndexAlike. -/
import Derived.Test.YtkpngkdkkcadfaaI20p
import Derived.Deep.DeepCutAuto
import Derived.Deep.CutBlock
namespace Go.Proofs.Ytkpngkdkkcadfaa
open Go.RowKit Mk Flo

theorem kfind_any {w : World} {W cm cx : Nat} {G : Int → Nat → Nat} {S : Ki → Option Cx} {B : Nat → Prop} (h : Bk w W cm cx G S B) {b cap : Nat} {g : Nat → Nat} (hp : PgN w B b g) (hg : ∀ j, g j < 256) (nt : Int) :
    Calls Try.prog 10 #[.pointer (some ⟨cx, 0, none⟩), .slice (some ⟨b, 0, none⟩) 4096 cap, .int .i64 nt] w fun e w' => ∃ x r, e = .returned (.tuple #[.int .i64 x, .bool r]) ∧ FIs G S g nt x r ∧ Below w.heap.size w w' :=
  (kfind h hp.1 hg nt).mono fun e w' hp => by
    obtain ⟨h1, ⟨k', h2, h3, h4⟩ | ⟨h2, h3⟩⟩ := hp
    · exact ⟨k', true, h4, .inl ⟨rfl, h2, h3⟩, h1⟩
    · exact ⟨0, false, h3, .inr ⟨rfl, rfl, h2⟩, h1⟩
def AkR (w : World) (cm cx : Nat) (vi : Value) (wr : World) : Prop := ∃ (i : Nat) (K V : Nat → Nat) (B : Nat → Prop), vi = .int .i64 i ∧ i ≤ 12 ∧ Kv i K V ∧ Tk w wr cm cx (aG i K V) (aS i) B
def KvP (wr : World) (v9 v10 : Value) (w' : World) : Prop := ∃ k v : Nat, v9 = .int .i64 k ∧ v10 = .int .i64 v ∧ k < 4 ∧ v < 4 ∧ ∃ q, w' = wr.drewN q
def FdR (w : World) (cm cx : Nat) (K V : Nat → Nat) (B : Nat → Prop) (vi : Value) (wr : World) : Prop := ∃ i : Nat, vi = .int .i64 i ∧ i ≤ 12 ∧ Tk w wr cm cx (aG 12 K V) (aS 12) B
def WaR (w : World) (cm cx : Nat) (K V : Nat → Nat) (B : Nat → Prop) (f : Nat) (vw vk : Value) (wr : World) : Prop := ∃ (n : Nat) (x want : Int), vk = .int .i64 x ∧ x = (n : Int) - 1 ∧ n ≤ 12 ∧ vw = .int .i64 want ∧ WantIs (aG 12 K V) f n want ∧ Tk w wr cm cx (aG 12 K V) (aS 12) B
def cntN : Value → Nat
  | .int _ n => (n + 1).toNat
  | _ => 0
theorem mask3n (x : Int) : ∃ k : Nat, bits .and .i64 x 3 = (k : Int) ∧ k < 4 := ⟨(x % 4).toNat, by rw [show (3 : Int) = 2 ^ 2 - 1 by decide, mask64 x 2 (by decide)]; omega, by omega⟩
set_option maxRecDepth 100000 in
set_option maxHeartbeats 8000000 in
theorem indexAlike_walk (A0 A1 : Option Addr) (n0 n1 c0 c1 : Nat) (xs0 xs1 : List Value) (w : World) (hr0 : Reads w w.heap.size 1 A0 n0 xs0) (hr1 : Reads w w.heap.size 1 A1 n1 xs1)
    (hx0 : ∀ u ∈ xs0, ∃ i, u = .int .i64 i ∧ (Lit.int .i64 i).wf = true) (hx1 : ∀ u ∈ xs1, ∃ i, u = .int .i64 i ∧ (Lit.int .i64 i).wf = true) :
    Calls Try.prog 5 #[.slice A0 n0 c0, .slice A1 n1 c1] w fun e w' => e = .returned (.bool true) ∧ Below w.heap.size w w' := by
  have HR := Lib.hid (show (Reads w w.heap.size 1 A0 n0 xs0 ∧ Reads w w.heap.size 1 A1 n1 xs1) ∧ (∀ u ∈ xs0, ∃ i, u = .int .i64 i ∧ (Lit.int .i64 i).wf = true) ∧ ∀ u ∈ xs1, ∃ i, u = .int .i64 i ∧ (Lit.int .i64 i).wf = true from ⟨⟨hr0, hr1⟩, hx0, hx1⟩)
  clear hr0 hr1 hx0 hx1
  go_enter Try.func5, Try.ntmps5
  go_wp2_with fail
  refine (kmade w).mono ?_; rintro e w1 ⟨cm, cx, B, rfl, h1, hbb⟩
  have HT := Lib.hid (show Tk w w1 cm cx G0 S0 B from ⟨h1, hbb⟩)
  clear h1 hbb
  go_wp2_with fail
  go_loopw [8] (AkR w cm cx) (fun v _ => 12 - cntI v)
  case atStart => exact ⟨0, fun _ => 0, fun _ => 0, B, rfl, by omega, fun j hj => by omega, by rw [aG_zero, aS_zero]; exact HT.out⟩
  case round =>
    obtain ⟨i, K, V, B1, rfl, hi, hkv, ht⟩ := hrel
    have HK := Lib.hid hkv
    replace HT := Lib.hid ht
    clear hkv ht
    have hwf : (Lit.int .i64 (i : Int)).wf = true := wf_small (by omega)
    by_cases hlt : i < 12
    · have q0 : decide ((i : Int) < 12) = true := by simp; omega
      have HLT := Lib.hid hlt
      clear hi hlt
      by_cases h0 : i < n0
      · have q1 : decide ((i : Int) < (n0 : Int)) = true := by simp; omega
        by_cases h1 : i < n1
        · have q2 : decide ((i : Int) < (n1 : Int)) = true := by simp; omega
          go_upto_if 41 with (fail)
          go_cut [9, 10] (KvP wr)
          case first =>
            obtain ⟨ad0, u0, rfl, _, hu0, hc0⟩ := (HR.out.1.1.below HT.out.be).at_ h0
            obtain ⟨ad1, u1, rfl, _, hu1, hc1⟩ := (HR.out.1.2.below HT.out.be).at_ h1
            obtain ⟨z0, rfl, _⟩ := HR.out.2.1 _ (List.mem_of_getElem? hu0)
            obtain ⟨z1, rfl, _⟩ := HR.out.2.2 _ (List.mem_of_getElem? hu1)
            obtain ⟨k, hk, hk4⟩ := mask3n z0
            obtain ⟨v, hv, hv4⟩ := mask3n z1
            clear hu0 hu1 HR
            have HK4 := Lib.hid hk4
            have HV4 := Lib.hid hv4
            clear hk4 hv4
            go_wp2_with fail
            go_region
            go_wp2_with fail
            go_meet
            exact ⟨k, v, rfl, rfl, HK4.out, HV4.out, 1, rfl⟩
          case rest =>
            obtain ⟨k, v, rfl, rfl, hk4, hv4, q, rfl⟩ := hcut
            replace HT := Lib.hid (HT.out.fresh (below_drewN (Below.refl _ _) q))
            generalize wr.drewN q = wc at *
            have HK4 := Lib.hid hk4
            have HV4 := Lib.hid hv4
            obtain ⟨y, hy⟩ : ∃ y : Nat, (i : Int) * 4096 = (y : Int) := ⟨i * 4096, by omega⟩
            obtain ⟨x1, hx1⟩ : ∃ x : Nat, (y : Int) + 64 = (x : Int) := ⟨y + 64, by omega⟩
            obtain ⟨u, hu⟩ : ∃ u : Nat, (100 : Int) - (v : Int) = (u : Int) := ⟨100 - v, by omega⟩
            obtain ⟨k', hk'⟩ : ∃ x : Nat, (k : Int) + 1 = (x : Int) := ⟨k + 1, by omega⟩
            obtain ⟨q', hq'⟩ : ∃ x : Nat, (32 : Int) * (k' : Int) = (x : Int) := ⟨32 * k', by omega⟩
            obtain ⟨x2, hx2⟩ : ∃ x : Nat, (x1 : Int) + (q' : Int) = (x : Int) := ⟨x1 + q', by omega⟩
            have HU := Lib.hid (show u = 100 - v from by omega)
            have HX1 := Lib.hid (show x1 = i * 4096 + 64 from by omega)
            have HX2 := Lib.hid (show x2 = i * 4096 + (96 + 32 * k) from by omega)
            have bd : u ≤ 100 ∧ x1 ≤ 100000 ∧ x2 ≤ 100000 ∧ q' ≤ 200 ∧ k' ≤ 4 ∧ y ≤ 100000 := by have := HLT.out; omega
            clear hk4
            go_wp2_with fail
            refine (kwrite_ok HT.out.bk (fr := i) (a := 64) (s := 8) (x := x1) (.inr rfl) rfl (by omega) HX1.out HLT.out u).mono ?_; rintro e w2 ⟨rfl, hto⟩
            rw [HU.out, aH_w] at hto
            obtain ⟨B2, ht, _, _⟩ := HT.out.to hto
            replace HT := Lib.hid ht
            clear hto ht
            go_wp2_with fail
            refine (kwrite_ok HT.out.bk (fr := i) (a := 96 + 32 * k) (s := 8) (x := x2) (.inr rfl) (by omega) (by have := HK4.out; omega) HX2.out HLT.out v).mono ?_; rintro e w3 ⟨rfl, hto⟩
            rw [aG_w] at hto
            obtain ⟨B3, ht, _, _⟩ := HT.out.to hto
            replace HT := Lib.hid ht
            clear hto ht
            have HK2 := Lib.hid (HK.out.step HK4.out HV4.out)
            go_wp2_with fail
            refine (kadd_ok HT.out.bk i hwf (by have := HLT.out; omega) (aS_none i hwf)).mono ?_; rintro e w4 ⟨rfl, hto⟩
            rw [aG_next, pg_dig (HK2.out i (by omega)).1 (HK2.out i (by omega)).2, aS_w] at hto
            obtain ⟨B4, ht, _, _⟩ := HT.out.to hto
            replace HT := Lib.hid ht
            clear hto ht
            go_wp2
            exact ⟨⟨i + 1, _, _, B4, by go_num, by have := HLT.out; omega, HK2.out, HT.out⟩, by have := HLT.out; simp [cntI]; omega⟩
        · have q2 : decide ((i : Int) < (n1 : Int)) = false := by simp; omega
          go_upto_if 41 with (fail)
          go_cut [9, 10] (KvP wr)
          case first =>
            go_wp2_with fail
            go_meet
            exact ⟨0, 0, rfl, rfl, by omega, by omega, 0, rfl⟩
          case rest =>
            obtain ⟨k, v, rfl, rfl, hk4, hv4, q, rfl⟩ := hcut
            replace HT := Lib.hid (HT.out.fresh (below_drewN (Below.refl _ _) q))
            generalize wr.drewN q = wc at *
            have HK4 := Lib.hid hk4
            have HV4 := Lib.hid hv4
            obtain ⟨y, hy⟩ : ∃ y : Nat, (i : Int) * 4096 = (y : Int) := ⟨i * 4096, by omega⟩
            obtain ⟨x1, hx1⟩ : ∃ x : Nat, (y : Int) + 64 = (x : Int) := ⟨y + 64, by omega⟩
            obtain ⟨u, hu⟩ : ∃ u : Nat, (100 : Int) - (v : Int) = (u : Int) := ⟨100 - v, by omega⟩
            obtain ⟨k', hk'⟩ : ∃ x : Nat, (k : Int) + 1 = (x : Int) := ⟨k + 1, by omega⟩
            obtain ⟨q', hq'⟩ : ∃ x : Nat, (32 : Int) * (k' : Int) = (x : Int) := ⟨32 * k', by omega⟩
            obtain ⟨x2, hx2⟩ : ∃ x : Nat, (x1 : Int) + (q' : Int) = (x : Int) := ⟨x1 + q', by omega⟩
            have HU := Lib.hid (show u = 100 - v from by omega)
            have HX1 := Lib.hid (show x1 = i * 4096 + 64 from by omega)
            have HX2 := Lib.hid (show x2 = i * 4096 + (96 + 32 * k) from by omega)
            have bd : u ≤ 100 ∧ x1 ≤ 100000 ∧ x2 ≤ 100000 ∧ q' ≤ 200 ∧ k' ≤ 4 ∧ y ≤ 100000 := by have := HLT.out; omega
            clear hk4
            go_wp2_with fail
            refine (kwrite_ok HT.out.bk (fr := i) (a := 64) (s := 8) (x := x1) (.inr rfl) rfl (by omega) HX1.out HLT.out u).mono ?_; rintro e w2 ⟨rfl, hto⟩
            rw [HU.out, aH_w] at hto
            obtain ⟨B2, ht, _, _⟩ := HT.out.to hto
            replace HT := Lib.hid ht
            clear hto ht
            go_wp2_with fail
            refine (kwrite_ok HT.out.bk (fr := i) (a := 96 + 32 * k) (s := 8) (x := x2) (.inr rfl) (by omega) (by have := HK4.out; omega) HX2.out HLT.out v).mono ?_; rintro e w3 ⟨rfl, hto⟩
            rw [aG_w] at hto
            obtain ⟨B3, ht, _, _⟩ := HT.out.to hto
            replace HT := Lib.hid ht
            clear hto ht
            have HK2 := Lib.hid (HK.out.step HK4.out HV4.out)
            go_wp2_with fail
            refine (kadd_ok HT.out.bk i hwf (by have := HLT.out; omega) (aS_none i hwf)).mono ?_; rintro e w4 ⟨rfl, hto⟩
            rw [aG_next, pg_dig (HK2.out i (by omega)).1 (HK2.out i (by omega)).2, aS_w] at hto
            obtain ⟨B4, ht, _, _⟩ := HT.out.to hto
            replace HT := Lib.hid ht
            clear hto ht
            go_wp2
            exact ⟨⟨i + 1, _, _, B4, by go_num, by have := HLT.out; omega, HK2.out, HT.out⟩, by have := HLT.out; simp [cntI]; omega⟩
      · have q1 : decide ((i : Int) < (n0 : Int)) = false := by simp; omega
        go_upto_if 41 with (fail)
        go_cut [9, 10] (KvP wr)
        case first =>
          go_wp2_with fail
          go_meet
          exact ⟨0, 0, rfl, rfl, by omega, by omega, 0, rfl⟩
        case rest =>
          obtain ⟨k, v, rfl, rfl, hk4, hv4, q, rfl⟩ := hcut
          replace HT := Lib.hid (HT.out.fresh (below_drewN (Below.refl _ _) q))
          generalize wr.drewN q = wc at *
          have HK4 := Lib.hid hk4
          have HV4 := Lib.hid hv4
          obtain ⟨y, hy⟩ : ∃ y : Nat, (i : Int) * 4096 = (y : Int) := ⟨i * 4096, by omega⟩
          obtain ⟨x1, hx1⟩ : ∃ x : Nat, (y : Int) + 64 = (x : Int) := ⟨y + 64, by omega⟩
          obtain ⟨u, hu⟩ : ∃ u : Nat, (100 : Int) - (v : Int) = (u : Int) := ⟨100 - v, by omega⟩
          obtain ⟨k', hk'⟩ : ∃ x : Nat, (k : Int) + 1 = (x : Int) := ⟨k + 1, by omega⟩
          obtain ⟨q', hq'⟩ : ∃ x : Nat, (32 : Int) * (k' : Int) = (x : Int) := ⟨32 * k', by omega⟩
          obtain ⟨x2, hx2⟩ : ∃ x : Nat, (x1 : Int) + (q' : Int) = (x : Int) := ⟨x1 + q', by omega⟩
          have HU := Lib.hid (show u = 100 - v from by omega)
          have HX1 := Lib.hid (show x1 = i * 4096 + 64 from by omega)
          have HX2 := Lib.hid (show x2 = i * 4096 + (96 + 32 * k) from by omega)
          have bd : u ≤ 100 ∧ x1 ≤ 100000 ∧ x2 ≤ 100000 ∧ q' ≤ 200 ∧ k' ≤ 4 ∧ y ≤ 100000 := by have := HLT.out; omega
          clear hk4
          go_wp2_with fail
          refine (kwrite_ok HT.out.bk (fr := i) (a := 64) (s := 8) (x := x1) (.inr rfl) rfl (by omega) HX1.out HLT.out u).mono ?_; rintro e w2 ⟨rfl, hto⟩
          rw [HU.out, aH_w] at hto
          obtain ⟨B2, ht, _, _⟩ := HT.out.to hto
          replace HT := Lib.hid ht
          clear hto ht
          go_wp2_with fail
          refine (kwrite_ok HT.out.bk (fr := i) (a := 96 + 32 * k) (s := 8) (x := x2) (.inr rfl) (by omega) (by have := HK4.out; omega) HX2.out HLT.out v).mono ?_; rintro e w3 ⟨rfl, hto⟩
          rw [aG_w] at hto
          obtain ⟨B3, ht, _, _⟩ := HT.out.to hto
          replace HT := Lib.hid ht
          clear hto ht
          have HK2 := Lib.hid (HK.out.step HK4.out HV4.out)
          go_wp2_with fail
          refine (kadd_ok HT.out.bk i hwf (by have := HLT.out; omega) (aS_none i hwf)).mono ?_; rintro e w4 ⟨rfl, hto⟩
          rw [aG_next, pg_dig (HK2.out i (by omega)).1 (HK2.out i (by omega)).2, aS_w] at hto
          obtain ⟨B4, ht, _, _⟩ := HT.out.to hto
          replace HT := Lib.hid ht
          clear hto ht
          go_wp2
          exact ⟨⟨i + 1, _, _, B4, by go_num, by have := HLT.out; omega, HK2.out, HT.out⟩, by have := HLT.out; simp [cntI]; omega⟩
    · obtain rfl : i = 12 := by omega
      clear hlt hi HR
      rw [show ((12 : Nat) : Int) = 12 from rfl]
      obtain ⟨wo, rfl⟩ : ∃ wo : World, wo = wr := ⟨_, rfl⟩
      go_wp2_with fail
      go_loopw [11] (FdR w cm cx K V B1) (fun v _ => 12 - cntI v)
      case atStart => exact ⟨0, rfl, by omega, HT.out⟩
      case round =>
        obtain ⟨f, rfl, hf, ht⟩ := hrel
        replace HT := Lib.hid ht
        clear ht
        have hwf2 : (Lit.int .i64 (f : Int)).wf = true := wf_small (by omega)
        by_cases hlt : f < 12
        · have q0 : decide ((f : Int) < 12) = true := by simp; omega
          have HLT := Lib.hid hlt
          clear hf hlt
          go_wp2_with fail
          refine (kget_ok HT.out.bk f hwf2 (by have := HLT.out; omega)).mono ?_; rintro e w2 ⟨bA, cA, rfl, hp, _, _, hbb⟩
          have HA := Lib.hid hp
          replace HT := Lib.hid (HT.out.fresh hbb)
          clear hp hbb
          go_wp2_with fail
          refine (kfind_any HT.out.bk HA.out (fun j => HT.out.bk.bytes _ j) f).mono ?_; rintro e w3 ⟨x, r, rfl, hx, hbb⟩
          have HX := Lib.hid hx
          replace HA := Lib.hid (HA.out.below hbb)
          replace HT := Lib.hid (HT.out.fresh hbb)
          clear hx hbb
          go_wp2_with fail
          refine (kfind_any HT.out.bk HA.out (fun j => HT.out.bk.bytes _ j) (-1)).mono ?_; rintro e w4 ⟨y, r2, rfl, hy, hbb⟩
          obtain ⟨rfl, y, rfl, hyf, hya⟩ := self_is HK.out HLT.out hy
          have HY := Lib.hid (show y ≤ f ∧ alk (aG 12 K V) f y from ⟨hyf, hya⟩)
          replace HT := Lib.hid (HT.out.fresh hbb)
          clear hy hyf hya hbb HA
          obtain ⟨wo, rfl⟩ : ∃ wo : World, wo = wr := ⟨_, rfl⟩
          go_wp2_with fail
          go_loopw [18, 19] (WaR w cm cx K V B1 f) (fun _ v _ => cntN v)
          case atStart => exact ⟨12, 11, -1, rfl, by omega, by omega, rfl, WantIs.begin _ _, HT.out⟩
          case round =>
            obtain ⟨n, xk, want, rfl, hxk, hn, rfl, hw, ht⟩ := hrel
            have HW := Lib.hid hw
            replace HT := Lib.hid ht
            clear hw ht
            cases n with
            | zero =>
              obtain rfl : xk = -1 := by omega
              clear hxk hn
              rcases want_is HK.out HLT.out HW.out HX.out with ⟨rfl, rfl, hw0⟩ | ⟨rfl, rfl⟩
              · have q3 : decide (x ≥ 0) = true := by simpa using hw0
                have q3' : decide (0 ≤ x) = true := by simpa using hw0
                clear hw0
                have q4 : decide ((f : Int) < (y : Int)) = false := by have := HY.out.1; simp; omega
                have q4' : decide ((y : Int) > (f : Int)) = false := by have := HY.out.1; simp; omega
                have q6 : y ≤ f := HY.out.1
                have hwf3 : (Lit.int .i64 (y : Int)).wf = true := wf_small (by have := HY.out.1; have := HLT.out; omega)
                go_wp2_with fail
                refine (ksame HT.out.bk y f hwf3 hwf2 (by have := HY.out.1; have := HLT.out; omega) (by have := HLT.out; omega)).mono ?_; rintro e w5 ⟨rr, rfl, hrr, hbb⟩
                obtain rfl : rr = true := hrr.2 HY.out.2
                replace HT := Lib.hid (HT.out.fresh hbb)
                clear hrr hbb
                have hf9 := HLT.out
                go_wp2
                go_roundw
                case rel => exact ⟨f + 1, by go_num, by omega, HT.out⟩
                case measure => simp [cntI]; omega
              · have q4 : decide ((f : Int) < (y : Int)) = false := by have := HY.out.1; simp; omega
                have q4' : decide ((y : Int) > (f : Int)) = false := by have := HY.out.1; simp; omega
                have q6 : y ≤ f := HY.out.1
                have hwf3 : (Lit.int .i64 (y : Int)).wf = true := wf_small (by have := HY.out.1; have := HLT.out; omega)
                go_wp2_with fail
                refine (ksame HT.out.bk y f hwf3 hwf2 (by have := HY.out.1; have := HLT.out; omega) (by have := HLT.out; omega)).mono ?_; rintro e w5 ⟨rr, rfl, hrr, hbb⟩
                obtain rfl : rr = true := hrr.2 HY.out.2
                replace HT := Lib.hid (HT.out.fresh hbb)
                clear hrr hbb
                have hf9 := HLT.out
                go_wp2
                go_roundw
                case rel => exact ⟨f + 1, by go_num, by omega, HT.out⟩
                case measure => simp [cntI]; omega
            | succ m =>
              obtain rfl : xk = (m : Int) := by omega
              clear hxk
              have q2 : decide ((m : Int) ≥ 0) = true := by simp
              have q2' : decide ((0 : Int) ≤ (m : Int)) = true := by simp
              have hwf3 : (Lit.int .i64 (m : Int)).wf = true := wf_small (by omega)
              have HN := Lib.hid hn
              by_cases hmf : m = f
              · have q5 : ((m : Int) == (f : Int)) = true := by rw [beq_iff_eq]; omega
                have q5' : ((m : Int) != (f : Int)) = false := by rw [bne, q5]; rfl
                have HM := Lib.hid hmf
                clear hmf
                go_wp2
                exact ⟨⟨m, (m : Int) - 1, want, by go_num, rfl, by omega, rfl, HW.out.skip (.inl HM.out), HT.out⟩, by simp [cntN]⟩
              · have q5 : ((m : Int) == (f : Int)) = false := by rw [beq_eq_false_iff_ne]; omega
                have q5' : ((m : Int) != (f : Int)) = true := by rw [bne, q5]; rfl
                have HM := Lib.hid hmf
                clear hmf
                go_wp2_with fail
                refine (ksame HT.out.bk m f hwf3 hwf2 (by have := HN.out; omega) (by have := HLT.out; omega)).mono ?_; rintro e w5 ⟨rr, rfl, hrr, hbb⟩
                have HRR := Lib.hid (show rr = true ↔ alk (aG 12 K V) f m from hrr)
                replace HT := Lib.hid (HT.out.fresh hbb)
                clear hrr hbb
                rcases Bool.eq_false_or_eq_true rr with hr | hr
                rotate_left
                · rw [hr] at HRR ⊢
                  clear hr
                  go_wp2
                  exact ⟨⟨m, (m : Int) - 1, want, by go_num, rfl, by omega, rfl, HW.out.skip (.inr fun h => by have := HRR.out.2 h; cases this), HT.out⟩, by simp [cntN]⟩
                · have HRT := Lib.hid hr
                  rw [hr]
                  clear hr
                  go_wp2
                  exact ⟨⟨m, (m : Int) - 1, m, by go_num, rfl, by omega, rfl, WantIs.take (by omega) HM.out (HRR.out.1 HRT.out), HT.out⟩, by simp [cntN]⟩
        · obtain rfl : f = 12 := by omega
          clear hlt hf
          go_wp2_with fail
          refine (kalike HT.out.bk).mono ?_; rintro e w10 ⟨v, us, rfl, hr, hu, ha, hb⟩
          obtain ⟨b0, cc, gi, ci, rfl, hb0, hb1, hc0, hI⟩ := one_group hr hu (alike12 ha)
          have HC0 := Lib.hid (show b0 < w10.heap.size ∧ w10.cell? ⟨b0, 0, none⟩ = some (.slice (some ⟨gi, 0, none⟩) 12 ci) from ⟨hb1, hc0⟩)
          replace HT := Lib.hid (HT.out.fresh hb)
          clear hr hu ha hb hb0 hb1 hc0 hI
          go_wp2_with fail
          refine (told_any w10).mono ?_; rintro e w11 ⟨rfl, hb⟩
          have hc1 := (hb.cell (p := ⟨b0, 0, none⟩) HC0.out.1).trans HC0.out.2
          replace HT := Lib.hid (HT.out.fresh hb)
          clear hb
          go_wp2
          go_ret
          exact ⟨rfl, HT.out.be⟩
end Go.Proofs.Ytkpngkdkkcadfaa
