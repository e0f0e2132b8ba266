/- Package index: Alike. -/
import Derived.Test.YtkpngkdkkcadfaaIxg
namespace Go.Proofs.Ytkpngkdkkcadfaa
open Go.RowKit Mk

set_option maxRecDepth 100000 in
theorem sclone {w : World} {base : Nat} {v : Value} {l : List Int} (h : w.ownsRow base 3 1 v l.length (l.map iv)) (hl : l ≠ []) (hn : l.length ≤ 1000) :
    Calls Try.prog 41 #[v] w fun e w' => ∃ g cap, e = .returned (.slice (some ⟨g, 0, none⟩) l.length cap) ∧ w'.ownsRow w.heap.size 3 1 (.slice (some ⟨g, 0, none⟩) l.length cap) l.length (l.map iv) ∧ Below w.heap.size w w' := by
  have hp : 0 < l.length := List.length_pos_iff.2 hl
  obtain ⟨g0, c0, rfl, _, _⟩ := h.form hp
  have q22 : ∀ (w : World) (a : Option Addr) (n c n' c' : Nat), (binOp .eql 48 (.slice a n c) (.slice none n' c')).run Try.prog w = .ok (.bool a.isNone) w := fun w a n c n' c' => Lib.run_eql_slice_nil w _ _ a n c n' c' Try.underlying48
  obtain ⟨i0, hi0, hz0', hz1, hz2⟩ := info_parts (show (Try.prog.info? 3).map (fun i => (i.zero, i.size, i.bytes)) = some (some (.int .i64 0), 1, 8) from by kernel_rfl)
  have HR := Lib.hid (Reads.of_own (own_below h (Below.alloc (Below.refl w.heap.size w) (Nat.le_refl _) (.cells #[] 3))))
  obtain ⟨n, hnn⟩ : ∃ n, l.length = n := ⟨_, rfl⟩
  rw [hnn] at HR hn hp ⊢
  clear h hl hnn
  go_enter Try.func41, Try.ntmps41
  go_wp2_with (first
    | (at_builtin; refine wpList_append_any _ rfl (.tmp 5) (.tmp 6) _ rfl w.heap.size 3 i0 _ 1 8 Try.underlying48 hi0 hz0' hz1 hz2 rfl (by omega) _ 0 [] rfl (World.ownsRow_lit w #[] 0 (Nat.le_refl _) (by unfold maxLen; omega) rfl) _ _ n c0 (l.map iv) rfl HR.out (fun u hu => by obtain ⟨x, _, rfl⟩ := List.mem_map.1 hu; rfl) (by unfold maxLen; omega) (by omega) (by simp) ?_
       intro v2 w4 hown2 hg4 hat2
       rw [Nat.zero_add, List.nil_append] at hown2
       obtain ⟨g, cap, rfl, _, _⟩ := hown2.form hp)
    | go_in)
  go_ret
  exact ⟨g, cap, rfl, hown2, (Below.alloc (Below.refl w.heap.size w) (Nat.le_refl _) _).grown hg4 (by simp) (fun g h => by cases h; exact Nat.le_refl _)⟩

/-- The groups of more than one, rising. -/
def AlikeOf (S : Ki → Option Cx) (ls : List (List Int)) : Prop := ls.Pairwise (fun a b => a.headD 0 < b.headD 0) ∧ ∀ l, l ∈ ls ↔ (∃ z, Grp S z l) ∧ 1 < l.length
/-- Groups gathered. -/
structure Gs (wr : World) (B : Nat) (S : Ki → Option Cx) (left : Cx → Bool) (vo : Value) (us : List Gr) : Prop where
  row : wr.ownsRow B 48 1 vo us.length (us.map uv)
  own : ∀ u ∈ us, wr.ownsRow B 3 1 (uv u) u.2.1.length (u.2.1.map iv)
  ne : ∀ u ∈ us, some u.1 ≠ vo.ownBlock
  mem : ∀ l, (∃ u ∈ us, u.2.1 = l) ↔ ∃ z, left z = false ∧ Grp S z l ∧ 1 < l.length
  pw : us.Pairwise (fun a b => hd a ≠ hd b)
theorem hd_mem {l : List Int} (h : 0 < l.length) : l.headD 0 ∈ l := by
  cases l with
  | nil => simp at h
  | cons a l => exact List.mem_cons_self ..
theorem Gs.hd_in {S : Ki → Option Cx} {wr : World} {B : Nat} {left : Cx → Bool} {vo : Value} {us : List Gr} (h : Gs wr B S left vo us) {u : Gr} (hu : u ∈ us) : ∃ z, left z = false ∧ Grp S z u.2.1 ∧ 1 < u.2.1.length ∧ ∃ h, S ⟨hd u, h⟩ = some z := by
  obtain ⟨z, h1, h2, h3⟩ := (h.mem u.2.1).1 ⟨u, hu, rfl⟩
  exact ⟨z, h1, h2, h3, (h2.2 _).1 (hd_mem (by omega))⟩
theorem Grp.unique {S : Ki → Option Cx} {z : Cx} {l m : List Int} (h : Grp S z l) (k : Grp S z m) : l = m := by
  have hn : ∀ {l : List Int}, l.Pairwise (· < ·) → l.Nodup := fun h => h.imp fun h e => by subst e; omega
  have hp : l.Perm m := (List.perm_ext_iff_of_nodup (hn h.1) (hn k.1)).2 fun p => by rw [h.2, k.2]
  exact List.Perm.eq_of_pairwise (le := fun a b => a < b) (fun a b _ _ h1 h2 => by omega) h.1 k.1 hp
/-- One more group. -/
theorem Gs.more {S : Ki → Option Cx} {wr w4 : World} {B g cap : Nat} {left : Cx → Bool} {vo v4 : Value} {us : List Gr} (h : Gs wr B S left vo us) {z : Cx} {l : List Int} (hgr : Grp S z l) (hl : 1 < l.length) (hlk : left z = true)
    (hrow : w4.ownsRow B 48 1 v4 (us.length + 1) (us.map uv ++ [.slice (some ⟨g, 0, none⟩) l.length cap]))
    (hown : ∀ u ∈ us, w4.ownsRow B 3 1 (uv u) u.2.1.length (u.2.1.map iv)) (hn : w4.ownsRow B 3 1 (.slice (some ⟨g, 0, none⟩) l.length cap) l.length (l.map iv))
    (hne : ∀ u ∈ us, some u.1 ≠ v4.ownBlock) (hg : some g ≠ v4.ownBlock) : Gs w4 B S (fun j => left j && !(decide (j = z))) v4 (us ++ [(g, l, cap)]) where
  row := by rw [List.length_append, List.map_append]; exact hrow
  own := fun u hu => by
    rcases List.mem_append.1 hu with hu | hu
    · exact hown u hu
    · rw [List.mem_singleton] at hu; subst hu; exact hn
  ne := fun u hu => by
    rcases List.mem_append.1 hu with hu | hu
    · exact hne u hu
    · rw [List.mem_singleton] at hu; subst hu; exact hg
  mem := fun m => by
    constructor
    · rintro ⟨u, hu, rfl⟩
      rcases List.mem_append.1 hu with hu | hu
      · obtain ⟨z', h1, h2⟩ := (h.mem u.2.1).1 ⟨u, hu, rfl⟩
        exact ⟨z', by simp [h1], h2⟩
      · rw [List.mem_singleton] at hu; subst hu; exact ⟨z, by simp, hgr, hl⟩
    · rintro ⟨z', h1, h2, h3⟩
      by_cases e : z' = z
      · subst e
        exact ⟨_, List.mem_append_right _ (List.mem_singleton.2 rfl), hgr.unique h2⟩
      · obtain ⟨u, hu, e2⟩ := (h.mem m).2 ⟨z', by simpa [e] using h1, h2, h3⟩
        exact ⟨u, List.mem_append_left _ hu, e2⟩
  pw := by
    rw [List.pairwise_append]
    refine ⟨h.pw, by simp, fun a ha b hb => ?_⟩
    rw [List.mem_singleton] at hb; subst hb
    intro e
    obtain ⟨z1, h1, h2, h3, h4, h5⟩ := h.hd_in ha
    obtain ⟨h6, h7⟩ := (hgr.2 _).1 (hd_mem (l := l) (by omega))
    have e2 : hd a = l.headD 0 := e
    have : z = z1 := by
      have h9 : ∀ (p q : Int) (hp : (Lit.int .i64 p).wf = true) (hq : (Lit.int .i64 q).wf = true), p = q → S ⟨p, hp⟩ = S ⟨q, hq⟩ := fun p q hp hq e => by subst e; rfl
      have := h9 _ _ h4 h6 e2
      rw [h5, h7] at this
      exact (Option.some.inj this).symm
    rw [this, h1] at hlk
    cases hlk
theorem Gs.less {S : Ki → Option Cx} {wr w4 : World} {B : Nat} {left : Cx → Bool} {vo : Value} {us : List Gr} (h : Gs wr B S left vo us) {z : Cx} {l : List Int} (hgr : Grp S z l) (hl : ¬ 1 < l.length)
    (hrow : w4.ownsRow B 48 1 vo us.length (us.map uv)) (hown : ∀ u ∈ us, w4.ownsRow B 3 1 (uv u) u.2.1.length (u.2.1.map iv)) : Gs w4 B S (fun j => left j && !(decide (j = z))) vo us where
  row := hrow
  own := hown
  ne := h.ne
  mem := fun m => by
    constructor
    · rintro ⟨u, hu, rfl⟩
      obtain ⟨z', h1, h2⟩ := (h.mem u.2.1).1 ⟨u, hu, rfl⟩
      exact ⟨z', by simp [h1], h2⟩
    · rintro ⟨z', h1, h2, h3⟩
      by_cases e : z' = z
      · subst e
        rw [hgr.unique h2] at hl
        exact absurd h3 hl
      · exact (h.mem m).2 ⟨z', by simpa [e] using h1, h2, h3⟩
  pw := h.pw
def DoneK {κ : Type} (P : Program) (w : World) (ops : Array Oper) (rest : List Oper) (o : Oper) (a : Act) (Q : Exit → Act → World → Prop) (left : κ → Bool) : Prop := (∀ k, left k = false) → wpList P ops Q rest (a.put o.dst (.tuple #[.bool false])) w
def MoreK {κ : Type} [DecidableEq κ] (P : Program) (K : TypeId) (c : Kq P K κ) (w : World) (b n : Nat) (f : κ → Option Value) (ops : Array Oper) (rest : List Oper) (o : Oper) (a : Act) (Q : Exit → Act → World → Prop) (r cnt : Nat) (left : κ → Bool) : Prop :=
  ∀ (k : κ) (v : Value) (w' : World) (cnt' : Nat), left k = true → f k = some v → RangesK P K c w' b r n f (fun j => left j && !(decide (j = k))) cnt' → cnt' < cnt →
      w.grownBy w' (some r) → w'.heap.size = w.heap.size → (Instr.entry (.pointer (some ⟨r, 0, none⟩))).run P w' = .ok (.tuple #[c.val k, v]) w' → wpList P ops Q rest (a.put o.dst (.tuple #[.bool true, c.val k, v])) w'
theorem wpList_next_hk {κ : Type} [DecidableEq κ] {P : Program} {K : TypeId} {c : Kq P K κ} {w : World} {b n : Nat} {f : κ → Option Value} {ops : Array Oper} {rest : List Oper} {o : Oper} {a : Act} {Q : Exit → Act → World → Prop} {r cnt : Nat} {left : κ → Bool} (hg : o.guard = none) (it : Operand) (hop : o.op = Op.next it false)
    (hit : a.eval it = .pointer (some ⟨r, 0, none⟩)) (h : RangesK P K c w b r n f left cnt)
    (hDone : DoneK P w ops rest o a Q left) (hMore : MoreK P K c w b n f ops rest o a Q r cnt left) :
    wpList P ops Q (o :: rest) a w := wpList_next_k hg it hop hit h hDone hMore
theorem infoS : (Try.prog.info? 48).map (fun i => (i.zero, i.size, i.bytes)) = some (some (.slice none 0 0), 1, 24) := by kernel_rfl
theorem gr_cell {w : World} {B : Nat} {u : Gr} (h : w.ownsRow B 3 1 (uv u) u.2.1.length (u.2.1.map iv)) (hl : 0 < u.2.1.length) : w.cell? ⟨u.1, 0, none⟩ = some (.int .i64 (hd u)) := by
  obtain ⟨ui, ul, uc⟩ := u
  cases ul with
  | nil => simp at hl
  | cons x xs =>
    have hr := (Reads.of_own h).2 (by simp)
    obtain ⟨p, hp, _, hc⟩ := hr
    cases hp
    exact hc 0 (iv x) rfl
theorem int_len {l m : List Int} (h : l.Pairwise (· ≠ ·)) (hs : ∀ k ∈ l, k ∈ m) : l.length ≤ m.length := by
  induction l generalizing m with
  | nil => exact Nat.zero_le _
  | cons x xs ih =>
    obtain ⟨h1, h2⟩ := List.pairwise_cons.1 h
    have hx := hs x (List.mem_cons_self ..)
    have := ih (m := m.erase x) h2 (fun k hk => by
      have hk2 := hs k (List.mem_cons_of_mem _ hk)
      exact (List.mem_erase_of_ne (Ne.symm (h1 k hk))).2 hk2)
    rw [List.length_erase_of_mem hx] at this
    have := List.length_pos_of_mem hx
    rw [List.length_cons]
    omega
theorem us_len {w : World} {B : Nat} {left : Cx → Bool} {S : Ki → Option Cx} {vo : Value} {us : List Gr} (hd' : ∀ k z, S k = some z → 0 ≤ k.1 ∧ k.1 < 1000) (hg : Gs w B S left vo us) : us.length ≤ 1000 := by
  have h1 : (us.map hd).Pairwise (· ≠ ·) := by rw [List.pairwise_map]; exact hg.pw
  have := int_len (m := (List.range 1000).map fun i : Nat => (i : Int)) h1 fun k hk => by
    obtain ⟨u, hu, rfl⟩ := List.mem_map.1 hk
    obtain ⟨z, _, _, _, h4, h5⟩ := hg.hd_in hu
    obtain ⟨h6, h7⟩ := hd' _ _ h5
    refine List.mem_map.2 ⟨(hd u).toNat, List.mem_range.2 ?_, ?_⟩
    · simp only at h6 h7; omega
    · simp only at h6 h7; omega
  simpa using this
theorem alike_of {S : Ki → Option Cx} {wr : World} {B : Nat} {left : Cx → Bool} {vo : Value} {us ts : List Gr} (h : Gs wr B S left vo us) (h0 : ∀ z, left z = false) (hp : ts.Perm us) (hs : ts.Pairwise (fun a b => hd a ≤ hd b)) : AlikeOf S (ts.map (·.2.1)) := by
  refine ⟨?_, fun l => ?_⟩
  · rw [List.pairwise_map]
    have h2 : ts.Pairwise (fun a b => hd a ≠ hd b) := hp.symm.pairwise_iff (fun {_ _} hne => Ne.symm hne) |>.1 h.pw
    exact (List.pairwise_and_iff.2 ⟨hs, h2⟩).imp fun {a b} h => by
      have h3 : hd a ≤ hd b := h.1
      have h4 : hd a ≠ hd b := h.2
      show hd a < hd b
      omega
  · rw [List.mem_map]
    constructor
    · rintro ⟨u, hu, rfl⟩
      obtain ⟨z, _, h2, h3⟩ := (h.mem u.2.1).1 ⟨u, hp.mem_iff.1 hu, rfl⟩
      exact ⟨⟨z, h2⟩, h3⟩
    · rintro ⟨⟨z, h2⟩, h3⟩
      obtain ⟨u, hu, e⟩ := (h.mem l).2 ⟨z, h0 z, h2, h3⟩
      exact ⟨u, hp.mem_iff.2 hu, e⟩
def AlR (w : World) (mb N : Nat) (S : Ki → Option Cx) (BF : Cx → Option Value) (vo : Value) (wr : World) : Prop := ∃ (left : Cx → Bool) (cnt : Nat) (us : List Gr), RangesK Try.prog 53 cxK wr mb w.heap.size N BF left cnt ∧ Gs wr (w.heap.size + 1) S left vo us ∧ Below w.heap.size w wr ∧ w.heap.size + 1 ≤ wr.heap.size
section
variable {w : World} {Wx cm cx : Nat} {S : Ki → Option Cx} {Bx : Nat → Prop}
def AlIs (w : World) (S : Ki → Option Cx) (e : Ending) (w' : World) : Prop := ∃ (v : Value) (us : List Gr), e = .returned v ∧ w'.ownsRow w.heap.size 48 1 v us.length (us.map uv) ∧ (∀ u ∈ us, w'.ownsRow w.heap.size 3 1 (uv u) u.2.1.length (u.2.1.map iv)) ∧ AlikeOf S (us.map (·.2.1)) ∧ Below w.heap.size w w'
set_option maxRecDepth 100000 in
set_option maxHeartbeats 8000000 in
theorem xalike (hx : Xm w Wx cx cm S Bx) : Calls Try.prog 20 #[.pointer (some ⟨cx, 0, none⟩)] w (AlIs w S) := by
  obtain ⟨ms, mb, BF, hx, rfl⟩ := hx
  have HX := Lib.hid hx
  have c2 := (hx.blk.cell 2).trans rfl
  obtain ⟨N, hN⟩ := hx.bm
  have hm1 := Lib.hid hN
  clear hx hN
  go_enter Try.func20, Try.ntmps20
  go_wp2_with (first
    | (at_range; refine wpList_range_k rfl _ _ rfl _ Try.underlying72 rfl hm1.out ?_; intro w0 cnt hrg0 hg0 hs0)
    | go_in)
  go_frame
  go_loopw [3] (AlR w mb N S BF) (fun _ wr => wr.rangeLeft mb w.heap.size)
  case atStart => exact ⟨_, cnt, [], hrg0, ⟨World.ownsRow_nil _ _ _ _, fun u h => (by cases h), fun u h => (by cases h), fun l => ⟨fun ⟨u, h, _⟩ => (by cases h), fun ⟨z, h1, h2, h3⟩ => by
    exfalso
    obtain ⟨h, e⟩ := (h2.2 _).1 (hd_mem (by omega))
    have := HX.out.non z (by cases hb : BF z with
      | none => rfl
      | some v => rw [hb] at h1; cases h1) _ e
    exact this⟩, List.Pairwise.nil⟩, (Below.refl _ w).grown hg0 (Nat.le_refl _) (fun _ h => by cases h), by omega⟩
  case round =>
    obtain ⟨left, cnt1, us, hrg, hgs, hbel, hsz⟩ := hrel
    have HGS := Lib.hid hgs
    have HB := Lib.hid hbel
    have hl1 := Lib.hid hrg.left_eq
    clear hgs hbel hrg0 hg0 hs0
    go_wp2_with (first
      | (at_next; refine wpList_next_hk rfl _ rfl rfl hrg ?_ ?_)
      | go_in)
    · intro hl0
      have hso := Lib.hid (sortG _ _ us wr HGS.out.row (fun u hu => by
        obtain ⟨z, _, h2, h3, h4, h5⟩ := HGS.out.hd_in hu
        have hr := HGS.out.own u hu
        exact ⟨by omega, HGS.out.ne u hu, (hr.lt u.1 rfl).2, gr_cell hr (by omega), HX.out.dom _ _ h5⟩) (by have := us_len HX.out.dom HGS.out; omega))
      go_wp2_with fail
      refine hso.out.mono ?_; rintro e w3 ⟨rfl, ts, hp, hs, hown3, hg3⟩
      have HT := Lib.hid (show ∃ ts : List Gr, w3.ownsRow w.heap.size 48 1 u3 ts.length (ts.map uv) ∧ (∀ u ∈ ts, w3.ownsRow w.heap.size 3 1 (uv u) u.2.1.length (u.2.1.map iv)) ∧ AlikeOf S (ts.map (·.2.1)) from
        ⟨ts, by rw [hp.length_eq]; exact ownsRow_mono hown3 (by omega), fun u hu => ownsRow_mono ((HGS.out.own u (hp.mem_iff.1 hu)).kept hg3 (.inr (HGS.out.ne u (hp.mem_iff.1 hu)))) (by omega), alike_of HGS.out hl0 hp hs⟩)
      have hB3 := Lib.hid (HB.out.grown hg3 HB.out.size (fun g hg => by have h1 := (HGS.out.row.lt g hg).1; omega))
      clear hp hs hown3 hg3 hso
      go_wp2
      go_ret
      obtain ⟨ts, h1, h2, h3⟩ := HT.out
      exact ⟨_, ts, rfl, h1, h2, h3, hB3.out⟩
    · intro z v w2 cnt2 hlk hfz hrg2 hlt2 hg2 hs2 hen0
      obtain ⟨l, hne, hgr, hown⟩ := HX.out.row z v hfz
      obtain ⟨A, cc, rfl, hA⟩ := own_forms hown
      have hen : (Instr.entry (.pointer (some ⟨w.heap.size, 0, none⟩))).run Try.prog w2 = .ok (.tuple #[cxV z, .slice A l.length cc]) w2 := hen0
      have hB2 : Below w.heap.size w w2 := HB.out.grown hg2 HB.out.size (fun _ e => by cases e; exact Nat.le_refl _)
      have HB2 := Lib.hid hB2
      have HO := Lib.hid (own_below hown hB2)
      have hll : l.length ≤ 1000 := rise_len hgr.1 (n := 1000) fun x hx' => by
        obtain ⟨h, e⟩ := (hgr.2 x).1 hx'
        exact HX.out.dom _ _ e
      have HC := Lib.hid (sclone (w := w2) HO.out hne hll)
      have HR2 := Lib.hid hrg2
      have HG2 := Lib.hid hg2
      have HGR := Lib.hid hgr
      have HLK := Lib.hid hlk
      have hul := us_len HX.out.dom HGS.out
      have hsz2 : wr.heap.size = w2.heap.size := by omega
      obtain ⟨L, hL⟩ : ∃ L, l.length = L := ⟨_, rfl⟩
      rw [hL] at hen HC
      have HL := Lib.hid hL
      have hLL : L ≤ 1000 := by omega
      clear hen0 hrg2 hg2 hgr hlk hL hll hown hB2 hfz hne hA hs2
      clear hrg
      have hL2 := HL.out
      change wpList _ _ _ _ (Act.put _ _ (.tuple #[.bool true, cxV z, .slice A l.length cc])) _
      rw [hL2]
      clear hL2
      generalize cxV z = zv at hen ⊢
      by_cases hL1 : 1 < L
      · have t1 : decide ((1 : Int) < (L : Int)) = true := decide_eq_true (by omega)
        have HL1 := Lib.hid hL1
        clear hL1
        obtain ⟨i0, hi0, hz0', hz1, hz2⟩ := info_parts infoS
        go_wp2_with fail
        refine HC.out.mono ?_; rintro e w3 ⟨g, cap, rfl, hown3, hb3⟩
        have HW3 := Lib.hid hown3
        have HB3 := Lib.hid hb3
        have hO3 := Lib.hid (own_below (HGS.out.row.kept HG2.out (.inr fun e => by have := (HGS.out.row.lt _ e).1; omega)) (hb3.mono (by omega)))
        have hg9 := hown3.lt g rfl
        have hsz3 := hb3.size
        clear hown3 hb3
        go_wp2_with (first
          | (at_builtin; refine wpList_append_any _ rfl (.tmp 18) (.tmp 21) _ rfl (w.heap.size + 1) 48 i0 _ 1 24 Try.underlying51 hi0 hz0' hz1 hz2 rfl (by omega) u3 _ _ rfl (hO3.out.alloc _) _ (some ⟨w3.heap.size, 0, none⟩) 1 1 [.slice (some ⟨g, 0, none⟩) L cap] rfl (reads_one1 w3 _ _) (by simp; rfl) (by unfold maxLen; omega) (by omega) (by simp; omega) ?_; intro v4 w4 hown4 hg4 hat4)
          | go_in)
        have hl9 := HL.out
        subst hl9
        have hmlt := hm1.out.lt
        have hbig : Below (w.heap.size + 1) w2 w4 := ((HB3.out.mono (by omega)).alloc (by omega) _).grown hg4 (by simp; omega) (fun g hg => (HGS.out.row.lt g hg).1)
        have hR4 := HR2.out.below hbig (by omega) (by omega)
        have hub : ∀ g, u3.ownBlock = some g → g < w2.heap.size := fun g hg => by have := (HGS.out.row.lt g hg).2; omega
        refine ⟨⟨_, cnt2, us ++ [(g, l, cap)], hR4, HGS.out.more HGR.out HL1.out HLK.out hown4 (fun u hu => ?_) ?_ (fun u hu => ?_) ?_, HB2.out.trans (hbig.mono (by omega)), by have := hbig.size; omega⟩, by rw [hR4.left_eq, hl1.out]; omega⟩
        · have hr := HGS.out.own u hu
          have h9 := hr.lt u.1 rfl
          exact ((own_below (hr.kept HG2.out (.inr fun e => by have : u.1 = w.heap.size := Option.some.inj e; omega)) (HB3.out.mono (by omega))).alloc _).kept hg4 (.inr (HGS.out.ne u hu))
        · exact (ownsRow_mono (HW3.out.alloc _) (by omega)).kept hg4 (.inr fun e => by have := hub g e.symm; omega)
        · have h9 := (HGS.out.own u hu).lt u.1 rfl
          rcases hat4 with e | e
          · rw [e]; exact HGS.out.ne u hu
          · rw [e]; intro e2; have := Option.some.inj e2; simp at h9 this; omega
        · rcases hat4 with e | e
          · rw [e]; intro e2; have := hub g e2.symm; omega
          · rw [e]; intro e2; have := Option.some.inj e2; simp at hg9 this; omega
      · have t1 : decide ((1 : Int) < (L : Int)) = false := decide_eq_false (by omega)
        go_wp2_with fail
        have hl9 := HL.out
        subst hl9
        refine ⟨⟨_, cnt2, us, HR2.out, HGS.out.less HGR.out hL1 (HGS.out.row.kept HG2.out (.inr fun e => by have := (HGS.out.row.lt _ e).1; omega)) (fun u hu => ?_), HB2.out, by omega⟩, by rw [HR2.out.left_eq, hl1.out]; omega⟩
        have hr := HGS.out.own u hu
        have h9 := hr.lt u.1 rfl
        exact hr.kept HG2.out (.inr fun e => by have : u.1 = w.heap.size := Option.some.inj e; omega)
end
end Go.Proofs.Ytkpngkdkkcadfaa
