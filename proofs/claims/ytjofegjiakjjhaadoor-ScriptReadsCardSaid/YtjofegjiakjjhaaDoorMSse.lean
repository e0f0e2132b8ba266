import Derived.Test.YtjofegjiakjjhaaDoorMSry
import Derived.Test.YtjofegjiakjjhaaDoorMShape
/- Script, plain law: a step near another, that has a line; steps in memory, one behind the other. -/
namespace Go.Proofs.YtjofegjiakjjhaaDoor
open Go.Lib

def nearK (k : Int) : Nat := (Int.tmod (Int.tmod k 32 + 32) 32).toNat + 1
theorem tmod_bd (a n : Int) (h : 0 < n) : -n < a.tmod n ∧ a.tmod n < n := by
  rcases Int.le_total 0 a with h0 | h0
  · have h1 := Int.tmod_lt_of_pos a h
    have h2 := Int.tmod_nonneg n h0
    exact ⟨by omega, h1⟩
  · have h1 := Int.tmod_lt_of_pos (-a) h
    have h2 := Int.tmod_nonneg n (show 0 ≤ -a by omega)
    rw [Int.neg_tmod] at h1 h2
    exact ⟨by omega, by omega⟩
theorem near_tmod (k : Int) : -32 < k.tmod 32 ∧ k.tmod 32 < 32 ∧ 0 ≤ (k.tmod 32 + 32).tmod 32 ∧ (k.tmod 32 + 32).tmod 32 < 32 := by
  have h1 := tmod_bd k 32 (by decide)
  have h2 := Int.tmod_nonneg 32 (show 0 ≤ k.tmod 32 + 32 by omega)
  have h3 := tmod_bd (k.tmod 32 + 32) 32 (by decide)
  exact ⟨h1.1, h1.2, h2, h3.2⟩
theorem nearK_bd (k : Int) : 1 ≤ nearK k ∧ nearK k ≤ 32 := by
  have := near_tmod k
  unfold nearK; omega
def nearF (s d : St) : Fd → St
  | .g => { d with guest := s.guest % 2147483648 }
  | .p => { d with page := s.page % 2147483648 }
  | .s => { d with size := s.size % 2147483648 }
  | .a => { d with asid := s.asid % 2147483648 }
  | .w => { d with way := s.way % 2147483648 }
  | .t => { d with set := s.set % 2147483648 }
  | .x => { d with addr := s.addr }
  | .v => { d with value := s.value }
  | .o => { d with on := s.on }
  | .r => { d with on := s.on }
  | .l => { d with what := 1 + s.what % 4 % 3 }
  | .f => { d with fails := s.fails.take 30 }
def nearS (s : St) : St := match kdT[nearK s.kind]? with
  | none => {}
  | some (_, fs) => fs.foldl (nearF s) { kind := nearK s.kind }
theorem nearF_ok {s d : St} (hs : s.ok) (hd : d.ok) (c : Fd) : (nearF s d c).ok := by
  have h31 : ∀ x : Int, i64ok (x % 2147483648) := fun x => ⟨by omega, by omega⟩
  cases c <;> unfold nearF <;> dsimp only
  · exact { hd with guest := h31 _ }
  · exact { hd with page := h31 _ }
  · exact { hd with size := h31 _ }
  · exact { hd with asid := h31 _ }
  · exact { hd with way := h31 _ }
  · exact { hd with set := h31 _ }
  · exact { hd with a0 := hs.a0, a1 := hs.a1 }
  · exact { hd with v0 := hs.v0, v1 := hs.v1 }
  · exact { hd with }
  · exact { hd with }
  · exact { hd with what := ⟨by dsimp only; omega, by dsimp only; omega⟩ }
  · exact { hd with }
theorem nears_ok {s : St} (hs : s.ok) : ∀ (fs : List Fd) (d : St), d.ok → (fs.foldl (nearF s) d).ok
  | [], _, h => h
  | c :: fs, _, h => nears_ok hs fs _ (nearF_ok hs h c)
theorem nears_fails (s : St) : ∀ (fs : List Fd) (d : St), d.fails.length ≤ 30 → (fs.foldl (nearF s) d).fails.length ≤ 30
  | [], _, h => h
  | c :: fs, _, h => nears_fails s fs _ (by
    cases c
    case f => show (s.fails.take 30).length ≤ 30; rw [List.length_take]; omega
    all_goals exact h)
theorem near_ok {s : St} (hs : s.ok) : (nearS s).ok ∧ (nearS s).fails.length ≤ 30 := by
  obtain ⟨h1, h2⟩ := nearK_bd s.kind
  obtain ⟨w0, fs, hk, _⟩ := kd_at h1 h2
  unfold nearS
  rw [hk]
  refine ⟨nears_ok hs fs _ ?_, nears_fails s fs _ (by simp)⟩
  have z : i64ok 0 := ⟨by decide, by decide⟩
  exact { a0 := (by decide : (0 : Int) ≤ 0), a1 := (by decide : (0 : Int) < 18446744073709551616), v0 := (by decide : (0 : Int) ≤ 0), v1 := (by decide : (0 : Int) < 18446744073709551616), kind := ⟨by dsimp only; omega, by dsimp only; omega⟩, guest := z, size := z, page := z, asid := z, what := z, set := z, way := z }
theorem decW_near (x : Int) : ∃ w, decW (x % 2147483648) = some w := ⟨_, by unfold decW; rw [if_pos ⟨by omega, by omega⟩]⟩
theorem whatW_near (x : Int) : ∃ w, whatW (1 + x % 4 % 3) = some w := by
  unfold whatW
  rcases (show 1 + x % 4 % 3 = 1 ∨ 1 + x % 4 % 3 = 2 ∨ 1 + x % 4 % 3 = 3 by omega) with h | h | h <;> rw [h]
  · exact ⟨_, rfl⟩
  · exact ⟨_, rfl⟩
  · exact ⟨_, rfl⟩
/-- A step near another has a line. -/
theorem near_line (s : St) : ∃ x, TextS (nearS s) = (x, 0) ∧ IsT (nearS s) x := by
  obtain ⟨h1, h2⟩ := nearK_bd s.kind
  suffices h : ∃ x, IsT (nearS s) x by
    obtain ⟨x, hx⟩ := h
    exact ⟨x, textS_of hx, hx⟩
  obtain ⟨k, hk⟩ : ∃ k, nearK s.kind = k := ⟨_, rfl⟩
  rw [hk] at h1 h2
  have hfl : (nearS s).fails.length ≤ 1000 := by
    have : (nearS s).fails.length ≤ 30 := by
      unfold nearS
      split
      · simp
      · exact nears_fails s _ _ (by simp)
    omega
  obtain ⟨w0, fs, hkd, _⟩ := kd_at h1 h2
  have hns : nearS s = fs.foldl (nearF s) { kind := k } := by unfold nearS; rw [hk, hkd]
  suffices h : (∃ ws, wrds (nearS s) fs = some ws) ∧ (nearS s).kind = k ∧ Same1 (nearS s) (maskS (nearS s) fs) ∧ (k = 31 ∨ (nearS s).fails = []) by
    obtain ⟨⟨ws, hw⟩, hkk, hsm, hff⟩ := h
    exact ⟨_, k, w0, fs, ws, hkk, h1, h2, hkd, hw, hsm, hff, hfl, rfl⟩
  rw [hns]
  clear hfl hns hk
  obtain ⟨g, hg⟩ := decW_near s.guest
  obtain ⟨p, hp⟩ := decW_near s.page
  obtain ⟨z, hz⟩ := decW_near s.size
  obtain ⟨a, ha⟩ := decW_near s.asid
  obtain ⟨y, hy⟩ := decW_near s.way
  obtain ⟨t, ht⟩ := decW_near s.set
  obtain ⟨v, hv⟩ := whatW_near s.what
  rcases kind_cases h1 h2 with rfl | rfl | rfl | rfl | rfl | rfl | rfl | rfl | rfl | rfl | rfl | rfl | rfl | rfl | rfl | rfl | rfl | rfl | rfl | rfl | rfl | rfl | rfl | rfl | rfl | rfl | rfl | rfl | rfl | rfl | rfl | rfl
  all_goals
    cases hkd
    refine ⟨?_, rfl, ⟨rfl, rfl, rfl, rfl, rfl, rfl, rfl, rfl, rfl, rfl, rfl⟩, by first | exact .inr rfl | exact .inl rfl⟩
    simp only [List.foldl_cons, List.foldl_nil, nearF, wrds, wrd, hg, hp, hz, ha, hy, ht, hv]
    exact ⟨_, rfl⟩
end Go.Proofs.YtjofegjiakjjhaaDoor
/- Script, the document's own: Near. -/
namespace Go.Proofs.YtjofegjiakjjhaaDoor
open Go.RowKit Go.Lib Mf

/-- The rounds of Near. -/
def NrR (w : World) (rb db k : Nat) (s : St) (cs : Array Value) (fs : List Fd) (v6 : Value) (wr : World) : Prop := ∃ (i : Nat) (F : Value), v6 = .int .i64 i ∧ i ≤ fs.length ∧ Blk wr w.heap.size 25 cs ∧ Blk wr rb 25 #[.int .i64 0, .int .i64 0, .int .u64 0, .int .i64 0, .int .u64 0, .int .i64 0, .bool false, .int .i64 0, .int .i64 0, .int .i64 0, .int .i64 0, .slice none 0 0] ∧ Blk wr db 25 (stC ((fs.take i).foldl (nearF s) { kind := k }) F) ∧ BRow wr (db + 1) F ((fs.take i).foldl (nearF s) { kind := k }).fails ∧ Below w.heap.size w wr
theorem slice_of {w : World} {base n : Nat} {e : TypeId} {v : Value} {xs : List Value} (h : w.ownsRow base e 1 v n xs) : ∃ A c, v = .slice A n c := by
  rcases own_cases h with ⟨rfl, h0⟩ | ⟨g, cc, rfl, _⟩
  · exact ⟨none, 0, by rw [h0]⟩
  · exact ⟨_, _, rfl⟩
set_option maxRecDepth 20000 in
set_option maxHeartbeats 8000000 in
theorem rnear (s : St) (hs : s.ok) (A : Option Addr) (cc : Nat) (hcc : s.fails.length ≤ cc) (hcm : s.fails.length ≤ maxLen) (w : World) (hf : Reads w w.heap.size 1 A s.fails.length (s.fails.map Value.bool)) :
    Calls Tryd.prog 10 #[.agg (stC s (.slice A s.fails.length cc))] w fun e w' => ∃ F, e = .returned (.agg (stC (nearS s) F)) ∧ BRow w' w.heap.size F (nearS s).fails ∧ Below w.heap.size w w' := by
  obtain ⟨i0, hi0, hz0', hz1, hz2⟩ := info_parts infoB
  obtain ⟨n, hn⟩ : ∃ n, s.fails.length = n := ⟨_, rfl⟩
  rw [hn] at hcc hcm hf ⊢
  have HF := Lib.hid hf
  have HNF := Lib.hid hn
  have HOK := Lib.hid hs
  clear hn hf
  obtain ⟨k, hk, hk1, hk2⟩ : ∃ k : Nat, nearK s.kind = k ∧ 1 ≤ k ∧ k ≤ 32 := ⟨_, rfl, nearK_bd _⟩
  obtain ⟨a, ha, ha1, ha2⟩ : ∃ a : Int, Int.tmod s.kind 32 = a ∧ -32 < a ∧ a < 32 := ⟨_, rfl, (near_tmod _).1, (near_tmod _).2.1⟩
  obtain ⟨b, hb, hb2⟩ : ∃ b : Nat, Int.tmod (a + 32) 32 = (b : Int) ∧ b + 1 = k := ⟨(Int.tmod (a + 32) 32).toNat, by have := near_tmod s.kind; rw [ha] at this; rw [Int.toNat_of_nonneg this.2.2.1], by rw [← hk, nearK, ha]⟩
  have hwa : IntKind.i64.wrap (a + 32) = a + 32 := IntWalk.i64_in _ (by omega)
  have hwb : IntKind.i64.wrap (1 + (b : Int)) = (k : Int) := by rw [IntWalk.i64_in _ (by omega)]; omega
  obtain ⟨w0s, fs, hkd, _, hfm, hwl, hfl⟩ := kd_at hk1 hk2
  have HNS := Lib.hid (show nearS s = fs.foldl (nearF s) { kind := k } from by unfold nearS; rw [hk, hkd])
  have HFm := Lib.hid (fun w => (show Calls Tryd.prog 23 #[.int .i64 k] w fun e w' => e = .returned (bv (fs.map rcd)) ∧ w = w' from by rw [← hfm]; exact rform hk1 hk2 w))
  obtain ⟨f, hf9⟩ : ∃ f, fs.map rcd = f := ⟨_, rfl⟩
  have hfm5 : f.length = fs.length := by rw [← hf9, List.length_map]
  obtain ⟨m, hm⟩ : ∃ m, fs.length = m := ⟨_, rfl⟩
  have HM := Lib.hid hm
  rw [hm] at hfl hfm5
  have HFG := Lib.hid (fun i c (h : fs[i]? = some c) (hi : i < f.length) => (show f[i] = rcd c from by
    have : f[i]? = some (rcd c) := by rw [← hf9, List.getElem?_map, h]; rfl
    rw [List.getElem?_eq_getElem hi] at this
    exact Option.some.inj this))
  rw [hf9] at HFm
  obtain ⟨cs, hcs⟩ : ∃ cs, stC s (.slice A n cc) = cs := ⟨_, rfl⟩
  have HCS := Lib.hid (show ∀ j : Nat, cs[j]? = (stC s (.slice A n cc))[j]? from fun j => by rw [hcs])
  have hsz1 : (w.alloc (.cells cs 25)).heap.size = w.heap.size + 1 := by simp
  have hsz2 : ((w.alloc (.cells cs 25)).alloc (.cells #[.int .i64 0, .int .i64 0, .int .u64 0, .int .i64 0, .int .u64 0, .int .i64 0, .bool false, .int .i64 0, .int .i64 0, .int .i64 0, .int .i64 0, .slice none 0 0] 25)).heap.size = w.heap.size + 2 := by simp
  have HBE := Lib.hid (((Below.refl w.heap.size w).alloc (Nat.le_refl _) (.cells cs 25)).alloc (show w.heap.size ≤ _ from by simp) (.cells #[.int .i64 0, .int .i64 0, .int .u64 0, .int .i64 0, .int .u64 0, .int .i64 0, .bool false, .int .i64 0, .int .i64 0, .int .i64 0, .int .i64 0, .slice none 0 0] 25))
  have HS := Lib.hid (show Blk ((w.alloc (.cells cs 25)).alloc (.cells #[.int .i64 0, .int .i64 0, .int .u64 0, .int .i64 0, .int .u64 0, .int .i64 0, .bool false, .int .i64 0, .int .i64 0, .int .i64 0, .int .i64 0, .slice none 0 0] 25)) w.heap.size 25 cs from (Blk.new w _ _).alloc _)
  have HR := Lib.hid (show Blk ((w.alloc (.cells cs 25)).alloc (.cells #[.int .i64 0, .int .i64 0, .int .u64 0, .int .i64 0, .int .u64 0, .int .i64 0, .bool false, .int .i64 0, .int .i64 0, .int .i64 0, .int .i64 0, .slice none 0 0] 25)) (w.heap.size + 1) 25 #[.int .i64 0, .int .i64 0, .int .u64 0, .int .i64 0, .int .u64 0, .int .i64 0, .bool false, .int .i64 0, .int .i64 0, .int .i64 0, .int .i64 0, .slice none 0 0] from by rw [← hsz1]; exact Blk.new _ _ _)
  have HZ2 := Lib.hid hsz2
  have e0 := (HS.out.cell 0).trans (HCS.out 0)
  clear hk hb2 hkd hfm hm hf9 hs hsz1 hsz2
  have hcsu := hcs
  unfold stC at hcsu ⊢
  go_enter Tryd.func10, Tryd.ntmps10
  go_upto_region 1 with fail
  rw [hcsu]
  clear hcsu hcs
  obtain ⟨rb, hrb⟩ : ∃ n, w.heap.size + 1 = n := ⟨_, rfl⟩
  rw [hrb] at HR ⊢
  generalize (w.alloc (.cells cs 25)).alloc (.cells #[.int .i64 0, .int .i64 0, .int .u64 0, .int .i64 0, .int .u64 0, .int .i64 0, .bool false, .int .i64 0, .int .i64 0, .int .i64 0, .int .i64 0, .slice none 0 0] 25) = w2 at *
  go_wp2_with fail
  refine (HFm.out _).mono ?_; rintro e _ ⟨rfl, rfl⟩
  clear e0
  go_upto_region 4 with fail
  have HD := Lib.hid (show Blk (w2.alloc (.cells #[.int .i64 k, .int .i64 0, .int .u64 0, .int .i64 0, .int .u64 0, .int .i64 0, .bool false, .int .i64 0, .int .i64 0, .int .i64 0, .int .i64 0, .slice none 0 0] 25)) w2.heap.size 25 (stC ({ kind := k } : St) (.slice none 0 0)) from Blk.new _ _ _)
  replace HBE := Lib.hid (HBE.out.alloc HBE.out.size (.cells #[.int .i64 k, .int .i64 0, .int .u64 0, .int .i64 0, .int .u64 0, .int .i64 0, .bool false, .int .i64 0, .int .i64 0, .int .i64 0, .int .i64 0, .slice none 0 0] 25))
  replace HS := Lib.hid (HS.out.alloc (.cells #[.int .i64 k, .int .i64 0, .int .u64 0, .int .i64 0, .int .u64 0, .int .i64 0, .bool false, .int .i64 0, .int .i64 0, .int .i64 0, .int .i64 0, .slice none 0 0] 25))
  replace HR := Lib.hid (HR.out.alloc (.cells #[.int .i64 k, .int .i64 0, .int .u64 0, .int .i64 0, .int .u64 0, .int .i64 0, .bool false, .int .i64 0, .int .i64 0, .int .i64 0, .int .i64 0, .slice none 0 0] 25))
  generalize w2.alloc (.cells #[.int .i64 k, .int .i64 0, .int .u64 0, .int .i64 0, .int .u64 0, .int .i64 0, .bool false, .int .i64 0, .int .i64 0, .int .i64 0, .int .i64 0, .slice none 0 0] 25) = w3 at *
  have HN1 := Lib.hid (show w.heap.size < rb ∧ rb < w2.heap.size from by have := HZ2.out; omega)
  clear hrb HZ2
  generalize w2.heap.size = db at *
  go_wp2_with fail
  go_loopw [6] (NrR w rb db k s cs fs) (fun v _ => m - cntZ v)
  case atStart => exact ⟨0, .slice none 0 0, rfl, Nat.zero_le _, HS.out, HR.out, HD.out, World.ownsRow_nil _ _ _ _, HBE.out⟩
  case round =>
    clear HS HR HD HBE
    obtain ⟨i, F, rfl, hi, hS, hR, hD, hW, hbe⟩ := hrel
    have HS := Lib.hid hS
    have HR := Lib.hid hR
    have HBE := Lib.hid hbe
    obtain ⟨d, hd⟩ : ∃ d, (fs.take i).foldl (nearF s) { kind := k } = d := ⟨_, rfl⟩
    have HDE := Lib.hid hd
    rw [hd] at hD hW
    have HD := Lib.hid hD
    have HW := Lib.hid hW
    clear hS hR hD hbe hW hd
    obtain ⟨FA, Fc, rfl⟩ := HW.out.form
    rw [HM.out] at hi
    by_cases hin : i < m
    · have g1 : decide ((i : Int) < (m : Int)) = true := by simp; exact hin
      have g1' : decide (i < m) = true := by simp; exact hin
      obtain ⟨c, hc⟩ : ∃ c, fs[i]? = some c := ⟨_, List.getElem?_eq_getElem (by rw [HM.out]; exact hin)⟩
      have hsz : i < (⟨f.toArray⟩ : ByteArray).size := (show i < f.length by omega)
      have HXB := Lib.hid (show (⟨f.toArray⟩ : ByteArray)[i]'hsz = rcd c from HFG.out i c hc (by omega))
      have HST := Lib.hid (show (fs.take (i + 1)).foldl (nearF s) { kind := k } = nearF s d c from by
        obtain ⟨hl9, e8⟩ := List.getElem?_eq_some_iff.1 hc
        rw [List.take_succ_eq_append_getElem hl9, List.foldl_append, HDE.out, e8]; rfl)
      clear hc
      cases c with
      | g =>
        have hv := (HS.out.cell 1).trans (HCS.out 1)
        have hxc := (HD.out.cell 1).trans rfl
        have hxf := HD.out.frozen 1
        have hzi : ((⟨f.toArray⟩ : ByteArray)[i]'hsz).toNat = 103 := by rw [HXB.out]; rfl
        have hms : bits .and .i64 s.guest 2147483647 = s.guest % 2147483648 := mask64 s.guest 31 (by omega)
        go_wp2
        refine ⟨⟨i + 1, _, by go_num, by rw [HM.out]; omega, HS.out.only (Only.setCell (S := fun g => g = db) (Only.refl _ wr) (p := ⟨db, 1, none⟩) (.inl rfl) _) (fun e => by have := HN1.out; omega), HR.out.only (Only.setCell (S := fun g => g = db) (Only.refl _ wr) (p := ⟨db, 1, none⟩) (.inl rfl) _) (fun e => by have := HN1.out; omega), by rw [HST.out]; exact HD.out.set_ 1 _, by rw [HST.out]; exact own_set HW.out, HBE.out.setCell (p := ⟨db, 1, none⟩) (show w.heap.size ≤ db by have := HN1.out; omega) _⟩, cntZ_lt hin⟩
      | p =>
        have hv := (HS.out.cell 5).trans (HCS.out 5)
        have hxc := (HD.out.cell 5).trans rfl
        have hxf := HD.out.frozen 5
        have hzi : ((⟨f.toArray⟩ : ByteArray)[i]'hsz).toNat = 112 := by rw [HXB.out]; rfl
        have hms : bits .and .i64 s.page 2147483647 = s.page % 2147483648 := mask64 s.page 31 (by omega)
        go_wp2
        refine ⟨⟨i + 1, _, by go_num, by rw [HM.out]; omega, HS.out.only (Only.setCell (S := fun g => g = db) (Only.refl _ wr) (p := ⟨db, 5, none⟩) (.inl rfl) _) (fun e => by have := HN1.out; omega), HR.out.only (Only.setCell (S := fun g => g = db) (Only.refl _ wr) (p := ⟨db, 5, none⟩) (.inl rfl) _) (fun e => by have := HN1.out; omega), by rw [HST.out]; exact HD.out.set_ 5 _, by rw [HST.out]; exact own_set HW.out, HBE.out.setCell (p := ⟨db, 5, none⟩) (show w.heap.size ≤ db by have := HN1.out; omega) _⟩, cntZ_lt hin⟩
      | s =>
        have hv := (HS.out.cell 3).trans (HCS.out 3)
        have hxc := (HD.out.cell 3).trans rfl
        have hxf := HD.out.frozen 3
        have hzi : ((⟨f.toArray⟩ : ByteArray)[i]'hsz).toNat = 115 := by rw [HXB.out]; rfl
        have hms : bits .and .i64 s.size 2147483647 = s.size % 2147483648 := mask64 s.size 31 (by omega)
        go_wp2
        refine ⟨⟨i + 1, _, by go_num, by rw [HM.out]; omega, HS.out.only (Only.setCell (S := fun g => g = db) (Only.refl _ wr) (p := ⟨db, 3, none⟩) (.inl rfl) _) (fun e => by have := HN1.out; omega), HR.out.only (Only.setCell (S := fun g => g = db) (Only.refl _ wr) (p := ⟨db, 3, none⟩) (.inl rfl) _) (fun e => by have := HN1.out; omega), by rw [HST.out]; exact HD.out.set_ 3 _, by rw [HST.out]; exact own_set HW.out, HBE.out.setCell (p := ⟨db, 3, none⟩) (show w.heap.size ≤ db by have := HN1.out; omega) _⟩, cntZ_lt hin⟩
      | a =>
        have hv := (HS.out.cell 7).trans (HCS.out 7)
        have hxc := (HD.out.cell 7).trans rfl
        have hxf := HD.out.frozen 7
        have hzi : ((⟨f.toArray⟩ : ByteArray)[i]'hsz).toNat = 97 := by rw [HXB.out]; rfl
        have hms : bits .and .i64 s.asid 2147483647 = s.asid % 2147483648 := mask64 s.asid 31 (by omega)
        go_wp2
        refine ⟨⟨i + 1, _, by go_num, by rw [HM.out]; omega, HS.out.only (Only.setCell (S := fun g => g = db) (Only.refl _ wr) (p := ⟨db, 7, none⟩) (.inl rfl) _) (fun e => by have := HN1.out; omega), HR.out.only (Only.setCell (S := fun g => g = db) (Only.refl _ wr) (p := ⟨db, 7, none⟩) (.inl rfl) _) (fun e => by have := HN1.out; omega), by rw [HST.out]; exact HD.out.set_ 7 _, by rw [HST.out]; exact own_set HW.out, HBE.out.setCell (p := ⟨db, 7, none⟩) (show w.heap.size ≤ db by have := HN1.out; omega) _⟩, cntZ_lt hin⟩
      | w =>
        have hv := (HS.out.cell 10).trans (HCS.out 10)
        have hxc := (HD.out.cell 10).trans rfl
        have hxf := HD.out.frozen 10
        have hzi : ((⟨f.toArray⟩ : ByteArray)[i]'hsz).toNat = 119 := by rw [HXB.out]; rfl
        have hms : bits .and .i64 s.way 2147483647 = s.way % 2147483648 := mask64 s.way 31 (by omega)
        go_wp2
        refine ⟨⟨i + 1, _, by go_num, by rw [HM.out]; omega, HS.out.only (Only.setCell (S := fun g => g = db) (Only.refl _ wr) (p := ⟨db, 10, none⟩) (.inl rfl) _) (fun e => by have := HN1.out; omega), HR.out.only (Only.setCell (S := fun g => g = db) (Only.refl _ wr) (p := ⟨db, 10, none⟩) (.inl rfl) _) (fun e => by have := HN1.out; omega), by rw [HST.out]; exact HD.out.set_ 10 _, by rw [HST.out]; exact own_set HW.out, HBE.out.setCell (p := ⟨db, 10, none⟩) (show w.heap.size ≤ db by have := HN1.out; omega) _⟩, cntZ_lt hin⟩
      | t =>
        have hv := (HS.out.cell 9).trans (HCS.out 9)
        have hxc := (HD.out.cell 9).trans rfl
        have hxf := HD.out.frozen 9
        have hzi : ((⟨f.toArray⟩ : ByteArray)[i]'hsz).toNat = 101 := by rw [HXB.out]; rfl
        have hms : bits .and .i64 s.set 2147483647 = s.set % 2147483648 := mask64 s.set 31 (by omega)
        go_wp2
        refine ⟨⟨i + 1, _, by go_num, by rw [HM.out]; omega, HS.out.only (Only.setCell (S := fun g => g = db) (Only.refl _ wr) (p := ⟨db, 9, none⟩) (.inl rfl) _) (fun e => by have := HN1.out; omega), HR.out.only (Only.setCell (S := fun g => g = db) (Only.refl _ wr) (p := ⟨db, 9, none⟩) (.inl rfl) _) (fun e => by have := HN1.out; omega), by rw [HST.out]; exact HD.out.set_ 9 _, by rw [HST.out]; exact own_set HW.out, HBE.out.setCell (p := ⟨db, 9, none⟩) (show w.heap.size ≤ db by have := HN1.out; omega) _⟩, cntZ_lt hin⟩
      | x =>
        have hv := (HS.out.cell 2).trans (HCS.out 2)
        have hxc := (HD.out.cell 2).trans rfl
        have hxf := HD.out.frozen 2
        have hzi : ((⟨f.toArray⟩ : ByteArray)[i]'hsz).toNat = 120 := by rw [HXB.out]; rfl
        skip
        go_wp2
        refine ⟨⟨i + 1, _, by go_num, by rw [HM.out]; omega, HS.out.only (Only.setCell (S := fun g => g = db) (Only.refl _ wr) (p := ⟨db, 2, none⟩) (.inl rfl) _) (fun e => by have := HN1.out; omega), HR.out.only (Only.setCell (S := fun g => g = db) (Only.refl _ wr) (p := ⟨db, 2, none⟩) (.inl rfl) _) (fun e => by have := HN1.out; omega), by rw [HST.out]; exact HD.out.set_ 2 _, by rw [HST.out]; exact own_set HW.out, HBE.out.setCell (p := ⟨db, 2, none⟩) (show w.heap.size ≤ db by have := HN1.out; omega) _⟩, cntZ_lt hin⟩
      | v =>
        have hv := (HS.out.cell 4).trans (HCS.out 4)
        have hxc := (HD.out.cell 4).trans rfl
        have hxf := HD.out.frozen 4
        have hzi : ((⟨f.toArray⟩ : ByteArray)[i]'hsz).toNat = 118 := by rw [HXB.out]; rfl
        skip
        go_wp2
        refine ⟨⟨i + 1, _, by go_num, by rw [HM.out]; omega, HS.out.only (Only.setCell (S := fun g => g = db) (Only.refl _ wr) (p := ⟨db, 4, none⟩) (.inl rfl) _) (fun e => by have := HN1.out; omega), HR.out.only (Only.setCell (S := fun g => g = db) (Only.refl _ wr) (p := ⟨db, 4, none⟩) (.inl rfl) _) (fun e => by have := HN1.out; omega), by rw [HST.out]; exact HD.out.set_ 4 _, by rw [HST.out]; exact own_set HW.out, HBE.out.setCell (p := ⟨db, 4, none⟩) (show w.heap.size ≤ db by have := HN1.out; omega) _⟩, cntZ_lt hin⟩
      | o =>
        have hv := (HS.out.cell 6).trans (HCS.out 6)
        have hxc := (HD.out.cell 6).trans rfl
        have hxf := HD.out.frozen 6
        have hzi : ((⟨f.toArray⟩ : ByteArray)[i]'hsz).toNat = 111 := by rw [HXB.out]; rfl
        skip
        go_wp2
        refine ⟨⟨i + 1, _, by go_num, by rw [HM.out]; omega, HS.out.only (Only.setCell (S := fun g => g = db) (Only.refl _ wr) (p := ⟨db, 6, none⟩) (.inl rfl) _) (fun e => by have := HN1.out; omega), HR.out.only (Only.setCell (S := fun g => g = db) (Only.refl _ wr) (p := ⟨db, 6, none⟩) (.inl rfl) _) (fun e => by have := HN1.out; omega), by rw [HST.out]; exact HD.out.set_ 6 _, by rw [HST.out]; exact own_set HW.out, HBE.out.setCell (p := ⟨db, 6, none⟩) (show w.heap.size ≤ db by have := HN1.out; omega) _⟩, cntZ_lt hin⟩
      | r =>
        have hv := (HS.out.cell 6).trans (HCS.out 6)
        have hxc := (HD.out.cell 6).trans rfl
        have hxf := HD.out.frozen 6
        have hzi : ((⟨f.toArray⟩ : ByteArray)[i]'hsz).toNat = 109 := by rw [HXB.out]; rfl
        skip
        go_wp2
        refine ⟨⟨i + 1, _, by go_num, by rw [HM.out]; omega, HS.out.only (Only.setCell (S := fun g => g = db) (Only.refl _ wr) (p := ⟨db, 6, none⟩) (.inl rfl) _) (fun e => by have := HN1.out; omega), HR.out.only (Only.setCell (S := fun g => g = db) (Only.refl _ wr) (p := ⟨db, 6, none⟩) (.inl rfl) _) (fun e => by have := HN1.out; omega), by rw [HST.out]; exact HD.out.set_ 6 _, by rw [HST.out]; exact own_set HW.out, HBE.out.setCell (p := ⟨db, 6, none⟩) (show w.heap.size ≤ db by have := HN1.out; omega) _⟩, cntZ_lt hin⟩
      | l =>
        have hms : bits .and .i64 s.what 3 = s.what % 4 := mask64 s.what 2 (by omega)
        have hmt : Int.tmod (s.what % 4) 3 = (s.what % 4) % 3 := Int.tmod_eq_emod_of_nonneg (by omega)
        have hmw : IntKind.i64.wrap (1 + s.what % 4 % 3) = 1 + s.what % 4 % 3 := IntWalk.i64_in _ (by omega)
        have hv := (HS.out.cell 8).trans (HCS.out 8)
        have hxc := (HD.out.cell 8).trans rfl
        have hxf := HD.out.frozen 8
        have hzi : ((⟨f.toArray⟩ : ByteArray)[i]'hsz).toNat = 102 := by rw [HXB.out]; rfl
        skip
        go_wp2
        refine ⟨⟨i + 1, _, by go_num, by rw [HM.out]; omega, HS.out.only (Only.setCell (S := fun g => g = db) (Only.refl _ wr) (p := ⟨db, 8, none⟩) (.inl rfl) _) (fun e => by have := HN1.out; omega), HR.out.only (Only.setCell (S := fun g => g = db) (Only.refl _ wr) (p := ⟨db, 8, none⟩) (.inl rfl) _) (fun e => by have := HN1.out; omega), by rw [HST.out]; exact HD.out.set_ 8 _, by rw [HST.out]; exact own_set HW.out, HBE.out.setCell (p := ⟨db, 8, none⟩) (show w.heap.size ≤ db by have := HN1.out; omega) _⟩, cntZ_lt hin⟩
      | f =>
        have hv := ((HS.out.alloc (.cells #[] 4)).cell 11).trans (HCS.out 11)
        have hzi : ((⟨f.toArray⟩ : ByteArray)[i]'hsz).toNat = 98 := by rw [HXB.out]; rfl
        obtain ⟨q, hq, hq2⟩ : ∃ q : Nat, min (n : Int) 30 = (q : Int) ∧ q = min n 30 := ⟨min n 30, by omega, rfl⟩
        have HQ2 := Lib.hid hq2
        have hqc : q ≤ cc := by omega
        have hsl : ∀ w', (Instr.slice 23 (.slice A n cc) none (some (.int .i64 (q : Int))) none).run Tryd.prog w' = .ok (.slice A q cc) w' := fun w' => run_cut_lo w' Tryd.underlying23 hi0 A n cc q hqc
        have HRT := Lib.hid (fun w' (hb : Below w.heap.size w w') => (show Reads w' w.heap.size 1 A q ((s.fails.take q).map Value.bool) from by
          have h9 := HF.out.below hb
          refine ⟨by rw [List.length_map, List.length_take, HNF.out]; omega, fun h0 => ?_⟩
          obtain ⟨ad, e, hb2, hc⟩ := h9.2 (by omega)
          refine ⟨ad, e, hb2, fun j u hu => hc j u ?_⟩
          rw [List.getElem?_map] at hu ⊢
          have hj : j < q := by
            have := (List.getElem?_eq_some_iff.1 (show ((s.fails.take q).map Value.bool)[j]? = some u from by rw [List.getElem?_map]; exact hu)).1
            rw [List.length_map, List.length_take] at this; omega
          rw [List.getElem?_take, if_pos hj] at hu
          exact hu))
        clear hq2
        have HDW := Lib.hid (show db < wr.heap.size from HD.out.lt)
        have HBA := Lib.hid (HBE.out.alloc HBE.out.size (.cells #[] 4))
        go_wp2_with (first
          | (at_builtin; (refine wpList_append_any _ rfl (.tmp 52) (.tmp 59) _ rfl (db + 1) 4 i0 _ 1 1 Tryd.underlying23 hi0 hz0' hz1 hz2 rfl (by omega) _ 0 [] rfl (⟨rfl, .inr ⟨wr.heap.size, 0, #[], rfl, HDW.out, heap_alloc_new wr _, Nat.le_refl _, by unfold maxLen; omega, rfl, rfl⟩⟩) w.heap.size A q cc ((s.fails.take q).map Value.bool) rfl (HRT.out _ HBA.out) (by intro u hu; obtain ⟨b9, _, rfl⟩ := List.mem_map.1 hu; rfl) (by omega) (by omega) (by have := HDW.out; simp; omega) ?_; intro v2 w4 hown2 hg4 hat4; rw [Nat.zero_add, List.nil_append] at hown2; obtain ⟨A2, C2, rfl⟩ : ∃ A2 C2, v2 = .slice A2 q C2 := slice_of hown2; have HD9 := Lib.hid ((HD.out.alloc (.cells #[] 4)).grown hg4 (fun e => by have e1 : db = wr.heap.size := Option.some.inj e; have := HDW.out; omega)); have hxc := (HD9.out.cell 11).trans rfl; have hxf := HD9.out.frozen 11; have HG4 := Lib.hid hg4; have HO2 := Lib.hid hown2; clear hg4 hat4 hown2))
          | fail)
        have ho4 : Only (fun g => g = db) wr w4 := (Only.alloc (Only.refl _ wr) _).grown HG4.out (fun g e => .inr (by have e1 : wr.heap.size = g := Option.some.inj e; omega))
        have ho5 : Only (fun g => g = db) wr (w4.setCell ⟨db, 11, none⟩ (.slice A2 q C2)) := ho4.setCell (p := ⟨db, 11, none⟩) (.inl rfl) _
        refine ⟨⟨i + 1, .slice A2 q C2, by go_num, by rw [HM.out]; omega, HS.out.only ho5 (fun e => by have := HN1.out; omega), HR.out.only ho5 (fun e => by have := HN1.out; omega), by rw [HST.out]; exact HD9.out.set_ 11 _, ?_, HBE.out.trans (ho5.to_below (fun k hk => by have := HN1.out; omega) HBE.out.size)⟩, cntZ_lt hin⟩
        rw [HST.out]
        show BRow _ _ _ (s.fails.take 30)
        have e30 : s.fails.take 30 = s.fails.take q := by
          rw [HQ2.out]
          rcases Nat.le_total n 30 with h | h
          · rw [Nat.min_eq_left h, List.take_of_length_le (by rw [HNF.out]; exact h), List.take_of_length_le (by rw [HNF.out]; exact Nat.le_refl _)]
          · rw [Nat.min_eq_right h]
        have hw9 := own_only HO2.out (Only.setCell (S := fun g => g = db) (Only.refl _ w4) (p := ⟨db, 11, none⟩) (.inl rfl) (.slice A2 q C2)) (fun k hk => by omega)
        unfold BRow
        rw [e30, show (s.fails.take q).length = q from by rw [List.length_take, HNF.out]; omega]
        exact hw9
    · obtain rfl : i = m := by omega
      have g1 : decide ((i : Int) < (i : Int)) = false := by simp
      have hdn : d = nearS s := by
        rw [HNS.out, ← HDE.out, List.take_of_length_le (by rw [HM.out]; exact Nat.le_refl _)]
      subst hdn
      go_upto_region 31 with fail
      rename_i hK
      apply wp_region_lit
      refine wpList_load_row rfl 25 _ rfl db rfl 25 _ (0, 0) _ HD.out Tryd.underlying25 rfl (by kernel_rfl) ?_
      (try simp only [Act.put, List.setIfInBounds_toArray, List.set_cons_zero, List.set_cons_succ])
      refine wpList_store_rowTo rfl 25 _ _ rfl rfl rb _ rfl rfl 25 _ HR.out (by kernel_rfl) (by kernel_rfl) (by kernel_rfl) ?_
      refine wpList_nil ?_
      refine hK _ _ ?_
      apply wp_ret
      refine bodyPost_ret (results_cell_row rfl _ _ rb 25 _ (0, 0) _ rfl (setRow_heap _ rb _ _ 25 (0, 0) HR.out) Tryd.underlying25 rfl (by kernel_rfl)) rfl ?_
      have ho8 : Only (fun g => g = rb) wr (wr.setRow rb (stC (nearS s) (.slice FA (nearS s).fails.length Fc))) := ⟨rfl, rfl, rfl, by simp, fun k hk hn9 => setRow_other wr rb k _ hn9⟩
      exact ⟨_, rfl, ownsRow_mono (own_only HW.out ho8 (fun k hk => by have := HN1.out; omega)) (by have := HN1.out; omega), below_setRow HBE.out (by have := HN1.out; omega) _⟩
end Go.Proofs.YtjofegjiakjjhaaDoor
