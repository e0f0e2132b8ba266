import Derived.Test.YtjofegjiakjjhaaDoorMSch
import Derived.Test.YtjofegjiakjjhaaDoorMScs
/- Script, the document's own: names and forms. -/
namespace Go.Proofs.YtjofegjiakjjhaaDoor
open Go.RowKit Go.Lib

theorem kind_cases {n : Nat} (h1 : 1 ≤ n) (h2 : n ≤ 32) : n = 1 ∨ n = 2 ∨ n = 3 ∨ n = 4 ∨ n = 5 ∨ n = 6 ∨ n = 7 ∨ n = 8 ∨ n = 9 ∨ n = 10 ∨ n = 11 ∨ n = 12 ∨ n = 13 ∨ n = 14 ∨ n = 15 ∨ n = 16 ∨ n = 17 ∨ n = 18 ∨ n = 19 ∨ n = 20 ∨ n = 21 ∨ n = 22 ∨ n = 23 ∨ n = 24 ∨ n = 25 ∨ n = 26 ∨ n = 27 ∨ n = 28 ∨ n = 29 ∨ n = 30 ∨ n = 31 ∨ n = 32 := by omega
def formR (n : Nat) : Bs := match kdT[n]? with | some (_, fs) => fs.map rcd | none => []
def nameR (n : Nat) : Bs := match kdT[n]? with | some (w, _) => w | none => []
set_option maxRecDepth 20000 in
set_option maxHeartbeats 8000000 in
theorem rform {n : Nat} (h1 : 1 ≤ n) (h2 : n ≤ 32) (w : World) :
    Calls Tryd.prog 23 #[.int .i64 n] w fun e w' => e = .returned (bv (formR n)) ∧ w = w' := by
  rcases kind_cases h1 h2 with rfl | rfl | rfl | rfl | rfl | rfl | rfl | rfl | rfl | rfl | rfl | rfl | rfl | rfl | rfl | rfl | rfl | rfl | rfl | rfl | rfl | rfl | rfl | rfl | rfl | rfl | rfl | rfl | rfl | rfl | rfl | rfl
  all_goals
    go_enter Tryd.func23, Tryd.ntmps23
    go_wp2
    go_ret
    exact ⟨rfl, rfl⟩
set_option maxRecDepth 20000 in
set_option maxHeartbeats 8000000 in
theorem rname {n : Nat} (h1 : 1 ≤ n) (h2 : n ≤ 32) (w : World) :
    Calls Tryd.prog 29 #[.int .i64 n] w (NumIs w (nameR n)) := by
  rcases kind_cases h1 h2 with rfl | rfl | rfl | rfl | rfl | rfl | rfl | rfl | rfl | rfl | rfl | rfl | rfl | rfl | rfl | rfl | rfl | rfl | rfl | rfl | rfl | rfl | rfl | rfl | rfl | rfl | rfl | rfl | rfl | rfl | rfl | rfl
  all_goals
    go_enter Tryd.func29, Tryd.ntmps29
    go_wp2
    go_ret
    exact ⟨rfl, (Below.refl _ _).alloc (Nat.le_refl _) _⟩
end Go.Proofs.YtjofegjiakjjhaaDoor
/- Script: laws beneath Text. -/
namespace Go.Proofs.YtjofegjiakjjhaaDoor
open Go.RowKit Go.Lib

theorem kd_at {n : Nat} (h1 : 1 ≤ n) (h2 : n ≤ 32) : ∃ w0 fs, kdT[n]? = some (w0, fs) ∧ nameR n = w0 ∧ formR n = fs.map rcd ∧ w0.length ≤ 7 ∧ fs.length ≤ 5 := by
  have : ∀ i : Fin 33, ∀ p ∈ kdT[i.1]?, p.1.length ≤ 7 ∧ p.2.length ≤ 5 := by decide
  obtain ⟨p, hp⟩ : ∃ p, kdT[n]? = some p := ⟨_, List.getElem?_eq_getElem (by show n < 33; omega)⟩
  have := this ⟨n, by omega⟩ p hp
  exact ⟨p.1, p.2, hp, by unfold nameR; rw [hp], by unfold formR; rw [hp], this⟩
set_option maxRecDepth 20000 in
theorem rest_eq {s : St} {n : Nat} {w0 : Bs} {fs : List Fd} (h1 : 1 ≤ n) (h2 : n ≤ 32) (hk : kdT[n]? = some (w0, fs)) : restB s (fs.map rcd) = true ↔ Same1 s (maskS s fs) ∧ (n = 31 ∨ s.fails = []) := by
  rcases kind_cases h1 h2 with rfl | rfl | rfl | rfl | rfl | rfl | rfl | rfl | rfl | rfl | rfl | rfl | rfl | rfl | rfl | rfl | rfl | rfl | rfl | rfl | rfl | rfl | rfl | rfl | rfl | rfl | rfl | rfl | rfl | rfl | rfl | rfl
  all_goals
    cases hk
    simp [restB, maskS, put1, Same1, rcd, and_assoc]
  all_goals
    first | done | (intros; constructor <;> (intro h; simp_all))
theorem textS_bad {s : St} {n : Nat} {w0 : Bs} {fs : List Fd} (hn : s.kind = n) (h1 : 1 ≤ n) (h2 : n ≤ 32) (hk : kdT[n]? = some (w0, fs)) (hr : ¬ (Same1 s (maskS s fs) ∧ (n = 31 ∨ s.fails = []))) : TextS s = ([], 1) := by
  unfold TextS
  rw [if_neg (by omega), hn, Int.toNat_natCast, hk]
  dsimp only
  cases wrds s fs with
  | none => rfl
  | some ws =>
    dsimp only
    rw [if_pos]
    by_cases h : Same1 s (maskS s fs)
    · refine .inr ⟨fun e => hr ⟨h, .inl (by omega)⟩, fun e => hr ⟨h, .inr e⟩⟩
    · exact .inl h
theorem textS_none {s : St} {n : Nat} {w0 : Bs} {fs : List Fd} (hn : s.kind = n) (h1 : 1 ≤ n) (h2 : n ≤ 32) (hk : kdT[n]? = some (w0, fs)) (hw : wrds s fs = none) : TextS s = ([], 1) := by
  unfold TextS
  rw [if_neg (by omega), hn, Int.toNat_natCast, hk]
  dsimp only
  rw [hw]
theorem textS_some {s : St} {n : Nat} {w0 : Bs} {fs : List Fd} {ws : List Bs} (hn : s.kind = n) (h1 : 1 ≤ n) (h2 : n ≤ 32) (hk : kdT[n]? = some (w0, fs)) (hw : wrds s fs = some ws) (hr : Same1 s (maskS s fs) ∧ (n = 31 ∨ s.fails = [])) :
    TextS s = if 1000 < s.fails.length then ([], 2) else (join (w0 :: ws) [32], 0) := by
  unfold TextS
  rw [if_neg (by omega), hn, Int.toNat_natCast, hk]
  dsimp only
  rw [hw]
  dsimp only
  rw [if_neg]
  rintro (h | h)
  · exact h hr.1
  · exact hr.2.elim (fun e => h.1 (by omega)) h.2
theorem textS_out {s : St} (h : s.kind < 1 ∨ 32 < s.kind) : TextS s = ([], 1) := by
  unfold TextS
  rw [if_pos h]
theorem wrds_app {s : St} {fs gs : List Fd} : wrds s (fs ++ gs) = (wrds s fs).bind fun ws => (wrds s gs).map fun vs => ws ++ vs := by
  induction fs with
  | nil => cases h : wrds s gs <;> simp [wrds, h]
  | cons c fs ih =>
    rw [List.cons_append, wrds, wrds, ih]
    cases wrd s c with
    | none => rfl
    | some w =>
      dsimp only
      cases wrds s fs with
      | none => rfl
      | some ws => cases wrds s gs <;> rfl
theorem wrds_snoc {s : St} {fs : List Fd} {i : Nat} {c : Fd} {ws : List Bs} (hc : fs[i]? = some c) (h : wrds s (fs.take i) = some ws) : wrds s (fs.take (i + 1)) = (wrd s c).map fun w => ws ++ [w] := by
  obtain ⟨hl, e⟩ := List.getElem?_eq_some_iff.1 hc
  rw [List.take_succ_eq_append_getElem hl, e, wrds_app, h]
  show (wrds s [c]).map _ = _
  rw [wrds, wrds]
  cases wrd s c <;> rfl
theorem wrds_none {s : St} {fs : List Fd} {i : Nat} {c : Fd} (hc : fs[i]? = some c) (h : wrd s c = none) : wrds s fs = none := by
  obtain ⟨hl, e⟩ := List.getElem?_eq_some_iff.1 hc
  have : fs = fs.take i ++ c :: fs.drop (i + 1) := by
    conv => lhs; rw [← List.take_append_drop i fs, List.drop_eq_getElem_cons hl, e]
  rw [this, wrds_app, wrds, h]
  cases wrds s (fs.take i) <;> rfl
theorem join_snoc (w0 : Bs) (ws : List Bs) (w : Bs) : join (w0 :: (ws ++ [w])) [32] = join (w0 :: ws) [32] ++ [32] ++ w := by
  rw [join_cons, join_cons]
  simp [joinTail]
theorem wrd_len {s : St} {c : Fd} {w : Bs} (hs : s.wf) (h : wrd s c = some w) : w.length ≤ 20 + s.fails.length := by
  have hdec : ∀ n w, decW n = some w → w.length ≤ 20 := fun n w h => by
    unfold decW at h
    split at h
    · injection h with h; subst h
      have := decD_len 10 n.toNat (by omega) (by omega)
      omega
    · cases h
  have hhex : ∀ n : Int, n < 18446744073709551616 → (hexW n.toNat).length ≤ 20 := fun n h1 => by
    have := hexD_len 16 n.toNat (by omega) (by omega)
    unfold hexW
    simp only [List.length_cons]; omega
  cases c <;> unfold wrd at h <;> dsimp only at h
  case g => have := hdec _ _ h; omega
  case p => have := hdec _ _ h; omega
  case s => have := hdec _ _ h; omega
  case a => have := hdec _ _ h; omega
  case w => have := hdec _ _ h; omega
  case t => have := hdec _ _ h; omega
  case x => injection h with h; subst h; have := hhex _ hs.a1; omega
  case v => injection h with h; subst h; have := hhex _ hs.v1; omega
  case o => injection h with h; subst h; split <;> simp <;> omega
  case r => injection h with h; subst h; split <;> simp <;> omega
  case l =>
    unfold whatW at h
    split at h
    · injection h with h; subst h; simp; omega
    · split at h
      · injection h with h; subst h; simp; omega
      · split at h
        · injection h with h; subst h; simp; omega
        · cases h
  case f =>
    injection h with h; subst h
    unfold failW
    split
    · simp; omega
    · rw [List.length_map]; omega
end Go.Proofs.YtjofegjiakjjhaaDoor
