/- pdqsortOrdered's helpers at words: breakPatterns. -/
import Derived.Test.YthnefhkacgkacaaSrtn
namespace Go.Proofs.Ythnefhkacgkacaa
open Go.RowKit

def BrkU (w : World) (base g n cap : Nat) (d0 : List Int) (a b e : Nat) (v : Value) (wr : World) : Prop := ∃ (t X : Nat) (d : List Int), v = .int .i64 t ∧ e ≤ t + 1 ∧ t ≤ e + 2 ∧ X < 18446744073709551616 ∧ Blk wr w.heap.size 67 #[.int .u64 X] ∧ RowU w base g n cap d0 a b d wr

theorem RowU.alloc {w wr : World} {base g n cap a b : Nat} {d0 d : List Int} (h : RowU w base g n cap d0 a b d wr) (o : Obj) : RowU w base g n cap d0 a b d (wr.alloc o) := ⟨h.own.alloc o, h.seg, only_alloc h.grown o⟩
/-- A store in a block that is newer than w. -/
theorem RowU.put {w wr : World} {base g n cap a b : Nat} {d0 d : List Int} (h : RowU w base g n cap d0 a b d wr) (hg : g < w.heap.size) (v : Value) : RowU w base g n cap d0 a b d (wr.setCell ⟨w.heap.size, 0, none⟩ v) :=
  ⟨h.own.kept (row := some w.heap.size) (only_setCell (World.grownBy.refl wr _) (.inl rfl) v) (.inr fun e => by have e' : g = w.heap.size := Option.some.inj e; omega), h.seg, only_setCell h.grown (.inr (Nat.le_refl _)) v⟩
theorem and_any (Y M : Nat) (hY : Y < 18446744073709551616) (h1 : 1 ≤ M) (hM : M ≤ 510) : ∃ z : Nat, z < M ∧ bits .and .u64 (Y : Int) ((M : Int) - 1) = (z : Int) := by
  obtain ⟨K, rfl⟩ : ∃ K, M = K + 1 := ⟨M - 1, by omega⟩
  refine ⟨Y &&& K, by have := Nat.and_le_right (n := Y) (m := K); omega, ?_⟩
  rw [show ((K + 1 : Nat) : Int) - 1 = (K : Int) by omega]
  exact bits_and_u64_nat Y K hY (by omega)
theorem own_lt {w : World} {base g n cap : Nat} {d : List Int} (h : RowW w base g n cap d) : g < w.heap.size := (h.lt g rfl).2

set_option maxRecDepth 100000 in
set_option maxHeartbeats 4000000 in
theorem break_u (off base g n cap a b L q : Nat) (d : List Int) (w : World) (hoff : off = 0) (h : RowW w base g n cap d) (hL : b = a + L) (hq : q = L / 4) (hb : b ≤ n) (hsz : n ≤ 255) :
    Calls Try.prog 29 #[.slice (some ⟨g, off, none⟩) n cap, .int .i64 a, .int .i64 b] w fun e w' =>
      e = .returned (.tuple #[]) ∧ ∃ d', RowU w base g n cap d a b d' w' := by
  have HO := Lib.hid hoff
  have hba : (b : Int) - (a : Int) = (L : Int) := by omega
  have hdq : (L : Int).tdiv 4 = (q : Int) := by subst hq; rfl
  have b2 : a + q * 2 ≤ b := by omega
  have b4 : a + L ≤ 255 := by omega
  have HG := Lib.hid (own_lt h)
  have HW := Lib.hid h
  clear hoff h
  by_cases h8 : 8 ≤ L
  · have HP := Lib.hid (pow_u L h8 (by omega))
    have HB := Lib.hid (show a + 1 ≤ a + q * 2 ∧ a + q * 2 + 1 < b by omega)
    have h8' : decide ((8 : Int) ≤ (L : Int)) = true := by simp; omega
    have HN := Lib.hid hb
    clear h8 hL hq hb
    go_enter Try.func29, Try.ntmps29
    go_wp2_with fail
    refine (HP.out _).mono ?_; rintro e w1 ⟨⟨l, rfl, hl1, hl2⟩, rfl⟩
    generalize 2 ^ l = M at *
    have HL1 := Lib.hid hl1
    have HL2 := Lib.hid hl2
    have hM : (M : Int) ≤ 510 := by omega
    clear hl1 hl2
    go_wp2_with fail
    go_loopw [9] (BrkU w base g n cap d a b (a + q * 2)) (fun v _ => a + q * 2 + 2 - cnt v)
    case atStart => exact ⟨a + q * 2 - 1, L, d, by have := HB.out; congr 1; omega, by omega, by omega, by omega, Blk.new w _ _, (RowU.start HW.out a b).alloc _⟩
    case round =>
      obtain ⟨t, X, dk, rfl, ht1, ht2, hX, hblk, hrow⟩ := hrel
      have HT1 := Lib.hid ht1
      have HT2 := Lib.hid ht2
      by_cases hlt : t ≤ a + q * 2 + 1
      · have hlt' : decide ((t : Int) ≤ (a : Int) + (q : Int) * 2 + 1) = true := by simp; omega
        have HLT := Lib.hid hlt
        have ht255 : (t : Int) < 255 := by have := HB.out; omega
        have HK := Lib.hid hblk
        have HR := Lib.hid hrow
        clear ht1 ht2 hlt hblk hrow
        go_wp2_with fail
        refine (next_u _ X hX _ (HK.out.cell 0) (HK.out.frozen 0)).mono ?_; rintro e w2 ⟨Y, hY, rfl, qq, rfl⟩
        obtain ⟨z, hzM, ez⟩ := and_any Y M hY (by have := HL1.out; omega) (by omega)
        have HY := Lib.hid hY
        have HZ := Lib.hid hzM
        have hz510 : (z : Int) < 510 := by omega
        have hM1 : (1 : Int) ≤ (M : Int) := by have := HL1.out; omega
        clear hY hzM hX
        have HK2 := Lib.hid (show Blk (((wr.setCell ⟨w.heap.size, 0, none⟩ (.int .u64 Y)).drewN qq)) w.heap.size 67 #[.int .u64 Y] from by have := HK.out.set_ 0 (.int .u64 Y); simpa using this.drewN qq)
        have HR2 := Lib.hid ((HR.out.put HG.out (.int .u64 Y)).drewN qq)
        clear HK HR
        generalize (wr.setCell ⟨w.heap.size, 0, none⟩ (.int .u64 Y)).drewN qq = w2 at *
        obtain ⟨G, hG⟩ : ∃ G : Nat → Int, ∀ t, G t = ele dk t := ⟨fun t => ele dk t, fun _ => rfl⟩
        have hcw : ∀ t, t < n → w2.cell? ⟨g, off + t, none⟩ = some (.int .u64 (G t)) := fun t ht => by rw [hG, HO.out, Nat.zero_add]; exact HR2.out.cell t ht
        have hfw : ∀ t, t < n → w2.frozen? ⟨g, off + t, none⟩ = false := fun t _ => by rw [HO.out, Nat.zero_add]; exact HR2.out.frozen t
        have HGG := Lib.hid hG
        clear hG
        have htn : t < n := by have := HN.out; have := HB.out; have := HLT.out; omega
        by_cases hLz : L ≤ z
        · have hd : decide ((L : Int) ≤ (z : Int)) = true := by simp; omega
          obtain ⟨y, hy⟩ : ∃ y : Nat, (z : Int) - (L : Int) = y := ⟨z - L, by omega⟩
          have hyL : a + y < b := by have := HZ.out; have := HL2.out; omega
          have hyn : a + y < n := by have := HN.out; omega
          have HYL := Lib.hid hyL
          clear hLz hyL
          by_cases hty : t = a + y
          · have hty' : (t : Int) = (a : Int) + (y : Int) := by omega
            go_wp2
            go_region
            all_goals go_wp2
            go_roundw
            case rel =>
              refine ⟨a + y + 1, Y, swp dk (a + y) (a + y), by go_num, by have := HT1.out; omega, by have := HLT.out; omega, HY.out, ?_, ?_⟩
              · exact ((HK2.out.drewN _).far (by have := HG.out; show w.heap.size ≠ g; omega) _).far (by have := HG.out; show w.heap.size ≠ g; omega) _
              · rw [HGG.out, HO.out, Nat.zero_add]
                exact (HR2.out.drewN _).swap ⟨by omega, HYL.out⟩ ⟨by omega, HYL.out⟩ HN.out
            case measure => simp [cnt]; have := HLT.out; omega
          · go_wp2
            go_region
            all_goals go_wp2
            go_roundw
            case rel =>
              refine ⟨t + 1, Y, swp dk t (a + y), by go_num, by have := HT1.out; omega, by have := HLT.out; omega, HY.out, ?_, ?_⟩
              · exact ((HK2.out.drewN _).far (by have := HG.out; show w.heap.size ≠ g; omega) _).far (by have := HG.out; show w.heap.size ≠ g; omega) _
              · rw [HGG.out, HGG.out, HO.out, Nat.zero_add, Nat.zero_add]
                exact (HR2.out.drewN _).swap ⟨by have := HB.out; have := HT1.out; omega, by have := HB.out; have := HLT.out; omega⟩ ⟨by omega, HYL.out⟩ HN.out
            case measure => simp [cnt]; have := HLT.out; omega
        · have hd : decide ((L : Int) ≤ (z : Int)) = false := by simp; omega
          have hzL : (z : Int) < (L : Int) := by omega
          have hyL : a + z < b := by omega
          have hyn : a + z < n := by have := HN.out; omega
          have HYL := Lib.hid hyL
          clear hLz hyL
          by_cases hty : t = a + z
          · have hty' : (t : Int) = (a : Int) + (z : Int) := by omega
            go_wp2
            go_region
            all_goals go_wp2
            go_roundw
            case rel =>
              refine ⟨a + z + 1, Y, swp dk (a + z) (a + z), by go_num, by have := HT1.out; omega, by have := HLT.out; omega, HY.out, ?_, ?_⟩
              · exact ((HK2.out.drewN _).far (by have := HG.out; show w.heap.size ≠ g; omega) _).far (by have := HG.out; show w.heap.size ≠ g; omega) _
              · rw [HGG.out, HO.out, Nat.zero_add]
                exact (HR2.out.drewN _).swap ⟨by omega, HYL.out⟩ ⟨by omega, HYL.out⟩ HN.out
            case measure => simp [cnt]; have := HLT.out; omega
          · go_wp2
            go_region
            all_goals go_wp2
            go_roundw
            case rel =>
              refine ⟨t + 1, Y, swp dk t (a + z), by go_num, by have := HT1.out; omega, by have := HLT.out; omega, HY.out, ?_, ?_⟩
              · exact ((HK2.out.drewN _).far (by have := HG.out; show w.heap.size ≠ g; omega) _).far (by have := HG.out; show w.heap.size ≠ g; omega) _
              · rw [HGG.out, HGG.out, HO.out, Nat.zero_add, Nat.zero_add]
                exact (HR2.out.drewN _).swap ⟨by have := HB.out; have := HT1.out; omega, by have := HB.out; have := HLT.out; omega⟩ ⟨by omega, HYL.out⟩ HN.out
            case measure => simp [cnt]; have := HLT.out; omega
      · have hlt' : decide ((t : Int) ≤ (a : Int) + (q : Int) * 2 + 1) = false := by simp; omega
        have HR := Lib.hid hrow
        clear ht1 ht2 hlt hblk hrow
        go_wp2
        go_end0
        exact ⟨rfl, dk, HR.out⟩
  · go_enter Try.func29, Try.ntmps29
    go_wp2
    go_end0
    exact ⟨rfl, d, RowU.start HW.out a b⟩
end Go.Proofs.Ythnefhkacgkacaa
