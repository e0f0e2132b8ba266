import Derived.Test.YtjofegjiakjjhaaDoorMSse
import Derived.Test.YtjofegjiakjjhaaDoorMSsh
/- Script, plain law: what is written is read. -/
namespace Go.Proofs.YtjofegjiakjjhaaDoor
open Go.Lib

theorem no10 {s : St} {c : Fd} {w : Bs} (h : wrd s c = some w) : (10 : UInt8) ∉ w := by
  have hdec : ∀ n w, decW n = some w → (10 : UInt8) ∉ w := fun n w h hm => by
    unfold decW at h
    split at h
    · injection h with h; subst h
      obtain ⟨k, hk, e⟩ := decD_mem _ _ hm
      have := congrArg UInt8.toNat e
      rw [decB hk] at this
      simp at this; omega
    · cases h
  have hhex : ∀ n, (10 : UInt8) ∉ hexW n := fun n hm => by
    unfold hexW at hm
    rw [List.mem_cons, List.mem_cons] at hm
    rcases hm with hm | hm | hm
    · revert hm; decide
    · revert hm; decide
    · obtain ⟨k, hk, e⟩ := hexD_mem _ _ hm
      have : ∀ k : Fin 16, (10 : UInt8) ≠ hdg k.1 := by decide
      exact this ⟨k, hk⟩ e
  cases c <;> unfold wrd at h
  case g => exact hdec _ _ h
  case p => exact hdec _ _ h
  case s => exact hdec _ _ h
  case a => exact hdec _ _ h
  case w => exact hdec _ _ h
  case t => exact hdec _ _ h
  case x => injection h with h; subst h; exact hhex _
  case v => injection h with h; subst h; exact hhex _
  case o => injection h with h; subst h; split <;> decide
  case r => injection h with h; subst h; split <;> decide
  case l =>
    dsimp only at h
    unfold whatW at h
    split at h
    · injection h with h; subst h; decide
    · split at h
      · injection h with h; subst h; decide
      · split at h
        · injection h with h; subst h; decide
        · cases h
  case f =>
    injection h with h; subst h
    unfold failW
    split
    · decide
    · intro hm
      obtain ⟨b, _, e⟩ := List.mem_map.1 hm
      cases b <;> revert e <;> decide
theorem wrds_no10 {s : St} : ∀ {fs : List Fd} {ws : List Bs}, wrds s fs = some ws → ∀ w ∈ ws, (10 : UInt8) ∉ w
  | [], ws, h => by injection h with h; subst h; intro w hw; cases hw
  | c :: fs, ws, h => by
    unfold wrds at h
    cases h1 : wrd s c with
    | none => rw [h1] at h; cases h
    | some w =>
      rw [h1] at h
      dsimp only at h
      cases h2 : wrds s fs with
      | none => rw [h2] at h; cases h
      | some ws' =>
        rw [h2] at h
        dsimp only at h
        injection h with h; subst h
        intro x hx
        rw [List.mem_cons] at hx
        rcases hx with rfl | hx
        · exact no10 h1
        · exact wrds_no10 h2 x hx
theorem join_no10 : ∀ (ws : List Bs) (w0 : Bs), (∀ w ∈ w0 :: ws, (10 : UInt8) ∉ w) → (10 : UInt8) ∉ join (w0 :: ws) [32]
  | [], w0, h => by rw [join_one]; exact h w0 List.mem_cons_self
  | x :: ws, w0, h => by
    have h1 := join_no10 ws x (fun w hw => h w (List.mem_cons_of_mem _ hw))
    rw [join_cons] at h1
    rw [join_cons, joinTail_cons, List.mem_append, List.mem_append, List.mem_append]
    rintro (e | (e | e) | e)
    · exact h w0 List.mem_cons_self e
    · revert e; decide
    · exact h1 (List.mem_append_left _ e)
    · exact h1 (List.mem_append_right _ e)
theorem isT_no10 {s : St} {l : Bs} (h : IsT s l) : (10 : UInt8) ∉ l := by
  obtain ⟨n, w0, fs, ws, _, _, _, h4, h5, _, _, _, rfl⟩ := h
  refine join_no10 ws w0 fun w hw => ?_
  rw [List.mem_cons] at hw
  rcases hw with rfl | hw
  · have : ∀ p ∈ kdT, (10 : UInt8) ∉ p.1 := by decide
    exact this _ (List.mem_of_getElem? h4)
  · exact wrds_no10 h5 w hw
theorem isT_skip {s : St} {l : Bs} (h : IsT s l) : skipL l = false := by
  obtain ⟨n, w0, fs, ws, _, h2, h3, h4, _, _, _, _, rfl⟩ := h
  have : ∀ i : Fin 33, 1 ≤ i.1 → ∀ p ∈ kdT[i.1]?, p.1 ≠ [] ∧ p.1.head? ≠ some 35 := by decide
  obtain ⟨e1, e2⟩ := this ⟨n, by omega⟩ h2 _ h4
  rw [join_cons]
  cases w0 with
  | nil => exact absurd rfl e1
  | cons y r =>
    unfold skipL
    simp only [List.cons_append, List.head?_cons] at e2 ⊢
    have h1 : ((y :: (r ++ joinTail [32] ws)) == ([] : Bs)) = false := rfl
    rw [h1, Bool.false_or]
    simpa using e2
theorem isT_len {s : St} {l : Bs} (hs : s.wf) (h : IsT s l) : l.length ≤ 7 + 5 * (21 + s.fails.length) := by
  obtain ⟨n, w0, fs, ws, _, h2, h3, h4, h5, _, _, _, rfl⟩ := h
  obtain ⟨w0', fs', hk, _, _, hw, hf⟩ := kd_at h2 h3
  rw [h4] at hk
  injection hk with hk
  injection hk with e1 e2
  subst e1 e2
  have h9 := join_len hs h5 w0
  have : fs.length * (21 + s.fails.length) ≤ 5 * (21 + s.fails.length) := Nat.mul_le_mul_right _ hf
  omega
/-- Steps that have lines. -/
def Lns (m : List St) : Prop := ∀ s ∈ m, s.ok ∧ s.fails.length ≤ 30 ∧ ∃ x, TextS s = (x, 0) ∧ IsT s x
theorem Lns.near {l : List St} (h : ∀ s ∈ l, s.ok) : Lns (l.map nearS) := fun s hs => by
  obtain ⟨t, ht, rfl⟩ := List.mem_map.1 hs
  obtain ⟨h1, h2⟩ := near_ok (h t ht)
  obtain ⟨x, h3, h4⟩ := near_line t
  exact ⟨h1, h2, x, h3, h4⟩
theorem print_lns {m : List St} (h : Lns m) (hl : m.length ≤ 4096) : PrintS m = (prA m, 0) := by
  unfold PrintS
  rw [if_neg (by omega), bad1_none (fun j t hj => by obtain ⟨_, _, x, e, _⟩ := h t (List.mem_of_getElem? hj); rw [e])]
theorem prA_len {m : List St} (h : Lns m) : (prA m).length ≤ m.length * 300 := by
  induction m with
  | nil => simp [prA]
  | cons s m ih =>
    obtain ⟨h1, h2, x, e, hx⟩ := h s List.mem_cons_self
    have h3 := ih (fun t ht => h t (List.mem_cons_of_mem _ ht))
    have h4 := isT_len h1.towf hx
    unfold prA at h3 ⊢
    simp only [List.flatMap_cons, List.length_append, e, List.length_cons, List.length_nil]
    omega
theorem cut_prA {m : List St} (h : Lns m) : cutL 10 (prA m) = m.map (fun s => (TextS s).1) ++ [[]] := by
  induction m with
  | nil => rfl
  | cons s m ih =>
    obtain ⟨_, _, x, e, hx⟩ := h s List.mem_cons_self
    have h3 := ih (fun t ht => h t (List.mem_cons_of_mem _ ht))
    have e1 : prA (s :: m) = x ++ 10 :: prA m := by
      unfold prA; rw [List.flatMap_cons, e]; simp
    rw [e1, cutL_hit 10 _ _ (isT_no10 hx), h3, List.map_cons, e]; rfl
theorem rdF_lns {m : List St} (h : Lns m) : ∀ n, rdF n (m.map (fun s => (TextS s).1) ++ [[]]) = (m, 0) := by
  induction m with
  | nil => intro n; rw [List.map_nil, List.nil_append, rdF, if_pos (show skipL [] = true from rfl)]; rfl
  | cons s m ih =>
    intro n
    obtain ⟨h1, h2, x, e, hx⟩ := h s List.mem_cons_self
    have h3 := ih (fun t ht => h t (List.mem_cons_of_mem _ ht))
    have h4 := isT_len h1.towf hx
    rw [List.map_cons, List.cons_append, e, rdF, if_neg (by rw [isT_skip hx]; decide), parseO_some (by omega) h1.towf hx]
    dsimp only
    rw [h3]
theorem read_back {m : List St} (h : Lns m) (hl : m.length ≤ 30) : ReadS ([35, 32, 97, 10, 10] ++ prA m) = (m, 0, 0) := by
  have hc : cutL 10 ([35, 32, 97, 10, 10] ++ prA m) = [35, 32, 97] :: [] :: (m.map (fun s => (TextS s).1) ++ [[]]) := by
    rw [← cut_prA h]
    show cutL 10 ([35, 32, 97] ++ 10 :: ([] ++ 10 :: prA m)) = _
    rw [cutL_hit 10 _ _ (by decide), cutL_hit 10 _ _ (by decide)]
  have hr : rdF 0 (cutL 10 ([35, 32, 97, 10, 10] ++ prA m)) = (m, 0) := by
    rw [hc, rdF, if_pos (by decide), rdF, if_pos (by decide), rdF_lns h]
  have hp := prA_len h
  unfold ReadS
  rw [if_neg (by rw [List.length_append]; simp; omega), hr, if_neg (by simp), if_neg (by simp; omega)]
theorem parse_line {s s' : St} {x : Bs} {c : Int} (hs : s.wf) (hl : s.fails.length ≤ 30) (hx : IsT s x) (h : ParseIs x s' c) : s' = s ∧ c = 0 :=
  h.unique (.is (by have := isT_len hs hx; omega) hs hx)
theorem parse_bad {l : Bs} {s : St} {c : Int} (h : ParseIs l s c) (hc : c ≠ 0) : s = {} := by
  cases h with
  | long _ => rfl
  | is _ _ _ => exact absurd rfl hc
  | none _ _ => rfl
theorem parse_good {l : Bs} {s : St} (h : ParseIs l s 0) : TextS s = (l, 0) := by
  cases h with
  | is _ _ ht => exact textS_of ht
end Go.Proofs.YtjofegjiakjjhaaDoor
