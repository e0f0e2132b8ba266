import Derived.Lib.ItoaNum
import Derived.Lib.AtoiAll
import Derived.Lib.SplitLaws
import Derived.Lib.Join
/- Script, plain law: digits, decimal and hex; what reads them back. -/
namespace Go.Proofs.YtjofegjiakjjhaaDoor
open Go.Lib

abbrev Bs := List UInt8
/-- A digit of sixteen. -/
def hdg (k : Nat) : UInt8 := if k < 10 then UInt8.ofNat (48 + k) else UInt8.ofNat (87 + k)
set_option linter.unusedVariables false in
def hexD (u : Nat) : Bs := if h : u < 16 then [hdg u] else hexD (u / 16) ++ [hdg (u % 16)]
termination_by u
decreasing_by omega
def hexW (u : Nat) : Bs := 48 :: 120 :: hexD u
/-- What a byte is as a digit of sixteen. -/
def hval (b : UInt8) : Option Nat := if 48 ≤ b.toNat ∧ b.toNat ≤ 57 then some (b.toNat - 48) else if 97 ≤ b.toNat ∧ b.toNat ≤ 102 then some (b.toNat - 87) else none
theorem hval_hdg {k : Nat} (h : k < 16) : hval (hdg k) = some k := by
  have : ∀ k : Fin 16, hval (hdg k.1) = some k.1 := by decide
  exact this ⟨k, h⟩
theorem hexD_small {u : Nat} (h : u < 16) : hexD u = [hdg u] := by rw [hexD, dif_pos h]
theorem hexD_big {u : Nat} (h : ¬ u < 16) : hexD u = hexD (u / 16) ++ [hdg (u % 16)] := by rw [hexD, dif_neg h]
theorem decD_small {u : Nat} (h : u < 10) : decDigits u = [UInt8.ofNat (48 + u)] := by rw [decDigits, dif_pos h]
theorem decD_big {u : Nat} (h : ¬ u < 10) : decDigits u = decDigits (u / 10) ++ [UInt8.ofNat (48 + u % 10)] := by rw [decDigits, dif_neg h]
theorem hexD_len : ∀ (k u : Nat), 0 < k → u < 16 ^ k → (hexD u).length ≤ k
  | 0, _, h, _ => by omega
  | k + 1, u, _, h => by
    by_cases hu : u < 16
    · rw [hexD_small hu]; simp
    · rw [hexD_big hu, List.length_append]
      have hk : 0 < k := by
        rcases Nat.eq_zero_or_pos k with e | e
        · subst e; simp at h; omega
        · exact e
      have := hexD_len k (u / 16) hk (by rw [Nat.pow_succ] at h; omega)
      simp only [List.length_cons, List.length_nil]; omega
theorem decD_len : ∀ (k u : Nat), 0 < k → u < 10 ^ k → (decDigits u).length ≤ k
  | 0, _, h, _ => by omega
  | k + 1, u, _, h => by
    by_cases hu : u < 10
    · rw [decD_small hu]; simp
    · rw [decD_big hu, List.length_append]
      have hk : 0 < k := by
        rcases Nat.eq_zero_or_pos k with e | e
        · subst e; simp at h; omega
        · exact e
      have := decD_len k (u / 10) hk (by rw [Nat.pow_succ] at h; omega)
      simp only [List.length_cons, List.length_nil]; omega
theorem hexD_ne (u : Nat) : hexD u ≠ [] := by
  by_cases h : u < 16
  · rw [hexD_small h]; simp
  · rw [hexD_big h]; simp
theorem decD_ne (u : Nat) : decDigits u ≠ [] := by
  by_cases h : u < 10
  · rw [decD_small h]; simp
  · rw [decD_big h]; simp
theorem hexD_mem (u : Nat) : ∀ b ∈ hexD u, ∃ k, k < 16 ∧ b = hdg k := by
  induction u using Nat.strongRecOn with
  | ind u ih =>
    by_cases h : u < 16
    · rw [hexD_small h]; intro b hb; rw [List.mem_singleton] at hb; exact ⟨u, h, hb⟩
    · rw [hexD_big h]; intro b hb
      rw [List.mem_append, List.mem_singleton] at hb
      rcases hb with hb | hb
      · exact ih _ (by omega) b hb
      · exact ⟨_, by omega, hb⟩
theorem decD_mem (u : Nat) : ∀ b ∈ decDigits u, ∃ k, k < 10 ∧ b = UInt8.ofNat (48 + k) := by
  induction u using Nat.strongRecOn with
  | ind u ih =>
    by_cases h : u < 10
    · rw [decD_small h]; intro b hb; rw [List.mem_singleton] at hb; exact ⟨u, h, hb⟩
    · rw [decD_big h]; intro b hb
      rw [List.mem_append, List.mem_singleton] at hb
      rcases hb with hb | hb
      · exact ih _ (by omega) b hb
      · exact ⟨_, by omega, hb⟩
theorem decB {k : Nat} (h : k < 10) : (UInt8.ofNat (48 + k)).toNat = 48 + k := by
  have : ∀ k : Fin 10, (UInt8.ofNat (48 + k.1)).toNat = 48 + k.1 := by decide
  exact this ⟨k, h⟩

/-- The document's 'num'. -/
def numF : Nat → Bs → Option Nat
  | n, [] => some n
  | n, b :: l => if 48 ≤ b.toNat ∧ b.toNat ≤ 57 then numF (n * 10 + (b.toNat - 48)) l else none
def numR (l : Bs) : Int := if l.length = 0 ∨ 10 < l.length then -1 else match numF 0 l with | some n => n | none => -1
theorem numF_app (n : Nat) (l m : Bs) : numF n (l ++ m) = (numF n l).bind fun k => numF k m := by
  induction l generalizing n with
  | nil => rfl
  | cons b l ih =>
    rw [List.cons_append, numF, numF]
    split
    · rw [ih]
    · rfl
theorem numF_dec (u : Nat) : numF 0 (decDigits u) = some u := by
  induction u using Nat.strongRecOn with
  | ind u ih =>
    by_cases h : u < 10
    · rw [decD_small h, numF, decB h, if_pos (by omega), numF]; congr 1; omega
    · rw [decD_big h, numF_app, ih _ (by omega), Option.bind_some, numF, decB (by omega), if_pos (by omega), numF]; congr 1; omega
theorem numR_dec {u : Nat} (h : u < 2147483648) : numR (decDigits u) = u := by
  have h1 := decD_len 10 u (by omega) (by omega)
  have h2 : (decDigits u).length ≠ 0 := fun e => decD_ne u (List.eq_nil_of_length_eq_zero e)
  rw [numR, if_neg (by omega), numF_dec]
/-- The document's 'hex'. -/
def hexF : Nat → Bs → Nat
  | v, [] => v
  | v, b :: l => hexF (match hval b with | some k => v * 16 + k | none => v) l
def hexR (l : Bs) : Nat := hexF 0 ((l.drop 2).take 16)
theorem hexF_app (v : Nat) (l m : Bs) : hexF v (l ++ m) = hexF (hexF v l) m := by
  induction l generalizing v with
  | nil => rfl
  | cons b l ih => rw [List.cons_append, hexF, hexF, ih]
theorem hexF_hex (u : Nat) : hexF 0 (hexD u) = u := by
  induction u using Nat.strongRecOn with
  | ind u ih =>
    by_cases h : u < 16
    · rw [hexD_small h, hexF, hval_hdg h, hexF]; dsimp only; omega
    · rw [hexD_big h, hexF_app, ih _ (by omega), hexF, hval_hdg (by omega), hexF]; dsimp only; omega
theorem hexR_hex {u : Nat} (h : u < 18446744073709551616) : hexR (hexW u) = u := by
  have h1 := hexD_len 16 u (by omega) (by omega)
  rw [hexR, hexW, List.drop_succ_cons, List.drop_succ_cons, List.drop_zero, List.take_of_length_le h1, hexF_hex]
/-- strconv.ParseUint at base 16. -/
def puD (b : UInt8) : Option Nat := if 48 ≤ b.toNat ∧ b.toNat ≤ 57 then some (b.toNat - 48) else if 97 ≤ b.toNat ∧ b.toNat ≤ 122 then some (b.toNat - 87) else if 65 ≤ b.toNat ∧ b.toNat ≤ 90 then some (b.toNat - 55) else none
inductive PuR where
  | ok (v : Nat)
  | syn
  | rng
  deriving DecidableEq
def puG : Nat → Bs → PuR
  | n, [] => .ok n
  | n, b :: l => match puD b with
    | none => .syn
    | some d => if 16 ≤ d then .syn else if 1152921504606846976 ≤ n then .rng else puG (n * 16 + d) l
theorem puG_app {n k : Nat} {l : Bs} (m : Bs) (h : puG n l = .ok k) : puG n (l ++ m) = puG k m := by
  induction l generalizing n with
  | nil => rw [puG] at h; injection h with h; subst h; rfl
  | cons b l ih =>
    rw [puG] at h
    rw [List.cons_append, puG]
    cases hd : puD b with
    | none => rw [hd] at h; cases h
    | some d =>
      rw [hd] at h
      dsimp only at h ⊢
      by_cases h1 : 16 ≤ d
      · rw [if_pos h1] at h; cases h
      · by_cases h2 : 1152921504606846976 ≤ n
        · rw [if_neg h1, if_pos h2] at h; cases h
        · rw [if_neg h1, if_neg h2] at h ⊢
          exact ih h
theorem puD_hdg {k : Nat} (h : k < 16) : puD (hdg k) = some k := by
  have : ∀ k : Fin 16, puD (hdg k.1) = some k.1 := by decide
  exact this ⟨k, h⟩
theorem puG_hex (u : Nat) (h : u < 18446744073709551616) : puG 0 (hexD u) = .ok u := by
  induction u using Nat.strongRecOn with
  | ind u ih =>
    by_cases hu : u < 16
    · rw [hexD_small hu, puG, puD_hdg hu]; dsimp only; rw [if_neg (by omega), if_neg (by omega), puG]; congr 1; omega
    · rw [hexD_big hu, puG_app _ (ih _ (by omega) (by omega)), puG, puD_hdg (by omega)]; dsimp only; rw [if_neg (by omega), if_neg (by omega), puG]; congr 1; omega
/-- strconv.Atoi reads what Itoa writes. -/
theorem pu10_app {n k : Nat} {l : Bs} (m : Bs) (h : parseUint10 n l = .ok k) : parseUint10 n (l ++ m) = parseUint10 k m := by
  induction l generalizing n with
  | nil => rw [parseUint10] at h; injection h with h; subst h; rfl
  | cons b l ih =>
    rw [parseUint10] at h
    rw [List.cons_append, parseUint10]
    by_cases h1 : 48 ≤ b.toNat ∧ b.toNat ≤ 57
    · rw [if_pos h1] at h ⊢
      by_cases h2 : 1844674407370955162 ≤ n
      · rw [if_pos h2] at h; cases h
      · rw [if_neg h2] at h ⊢
        by_cases h3 : 18446744073709551616 ≤ n * 10 + (b.toNat - 48)
        · rw [if_pos h3] at h; cases h
        · rw [if_neg h3] at h ⊢
          exact ih h
    · rw [if_neg h1] at h; cases h
theorem pu10_dec (u : Nat) (h : u < 2147483648) : parseUint10 0 (decDigits u) = .ok u := by
  induction u using Nat.strongRecOn with
  | ind u ih =>
    by_cases hu : u < 10
    · rw [decD_small hu, parseUint10, decB hu, if_pos (by omega), if_neg (by omega), if_neg (by omega), parseUint10]; congr 1; omega
    · rw [decD_big hu, pu10_app _ (ih _ (by omega) (by omega)), parseUint10, decB (by omega), if_pos (by omega), if_neg (by omega), if_neg (by omega), parseUint10]; congr 1; omega
theorem atoi_dec {u : Nat} (h : u < 2147483648) : atoiAll (decDigits u) = .ok (u : Int) := by
  cases hd : decDigits u with
  | nil => exact absurd hd (decD_ne u)
  | cons c r =>
    obtain ⟨k, hk, rfl⟩ := decD_mem u c (by rw [hd]; exact List.mem_cons_self)
    have hc := decB hk
    have h2 : parseMag (UInt8.ofNat (48 + k) :: r) = .ok u := by
      unfold parseMag
      rw [if_neg (by simp), ← hd]
      exact pu10_dec u h
    unfold atoiAll
    dsimp only
    rw [hc, if_neg (by omega), h2]
    dsimp only
    rw [if_neg (by omega), if_neg (by omega), if_neg (by omega)]
end Go.Proofs.YtjofegjiakjjhaaDoor
/- Script, plain law: a text cut at a byte, and joined. -/
namespace Go.Proofs.YtjofegjiakjjhaaDoor
open Go.Lib

/-- Pieces between a byte's places. -/
def cutL (c : UInt8) : Bs → List Bs
  | [] => [[]]
  | b :: l => if b = c then [] :: cutL c l else (b :: (cutL c l).headD []) :: (cutL c l).tail
theorem cutL_ne (c : UInt8) (l : Bs) : cutL c l ≠ [] := by
  cases l with
  | nil => simp [cutL]
  | cons b l => rw [cutL]; split <;> simp
theorem cutL_hit (c : UInt8) (a r : Bs) (h : c ∉ a) : cutL c (a ++ c :: r) = a :: cutL c r := by
  induction a with
  | nil => rw [List.nil_append, cutL, if_pos rfl]
  | cons b a ih =>
    rw [List.mem_cons, not_or] at h
    rw [List.cons_append, cutL, if_neg (fun e => h.1 e.symm), ih h.2]
    rfl
theorem cutL_no (c : UInt8) (a : Bs) (h : c ∉ a) : cutL c a = [a] := by
  induction a with
  | nil => rfl
  | cons b a ih =>
    rw [List.mem_cons, not_or] at h
    rw [cutL, if_neg (fun e => h.1 e.symm), ih h.2]
    rfl
theorem joinTail_cons (sep x : Bs) (r : List Bs) : joinTail sep (x :: r) = sep ++ x ++ joinTail sep r := by simp [joinTail]
theorem cutL_join (c : UInt8) (x : Bs) (r : List Bs) (h : ∀ a ∈ x :: r, c ∉ a) : cutL c (join (x :: r) [c]) = x :: r := by
  induction r generalizing x with
  | nil => rw [join_one]; exact cutL_no c x (h x List.mem_cons_self)
  | cons y r ih =>
    have e : join (x :: y :: r) [c] = x ++ c :: join (y :: r) [c] := by
      rw [join_cons, join_cons, joinTail_cons]; simp
    rw [e, cutL_hit c x _ (h x List.mem_cons_self), ih y fun a ha => h a (List.mem_cons_of_mem _ ha)]
theorem split_at {l : Bs} {c : UInt8} {o : Nat} (h1 : l[o]? = some c) (h2 : ∀ k, k < o → l[k]? ≠ some c) : l = l.take o ++ c :: l.drop (o + 1) ∧ c ∉ l.take o := by
  obtain ⟨hlt, he⟩ := List.getElem?_eq_some_iff.1 h1
  refine ⟨?_, fun hm => ?_⟩
  · conv => lhs; rw [← List.take_append_drop o l, List.drop_eq_getElem_cons hlt, he]
  · obtain ⟨k, hk, e⟩ := List.mem_iff_getElem.1 hm
    rw [List.length_take] at hk
    rw [List.getElem_take] at e
    exact h2 k (by omega) (by rw [List.getElem?_eq_getElem (by omega), e])
theorem splitK_cut (c : UInt8) : ∀ (n : Nat) (l : Bs), l.length ≤ n → splitK [c] 0 (l.count c) l = cutL c l := by
  intro n
  induction n with
  | zero => intro l hl; rw [List.eq_nil_of_length_eq_zero (Nat.le_zero.1 hl)]; rfl
  | succ n ih =>
    intro l hl
    by_cases hi : indexByte l c = -1
    · have hn : c ∉ l := fun hm => by
        obtain ⟨k, hk, e⟩ := List.mem_iff_getElem.1 hm
        exact indexByte_none hi k (by rw [List.getElem?_eq_getElem hk, e])
      rw [List.count_eq_zero.2 hn, splitK, cutL_no c l hn]
    · obtain ⟨o, ho⟩ : ∃ o : Nat, indexByte l c = o := ⟨(indexByte l c).toNat, by have := indexByte_ge l c; omega⟩
      obtain ⟨h1, h2⟩ := indexByte_some ho
      obtain ⟨e, hn⟩ := split_at h1 h2
      have hlt := (List.getElem?_eq_some_iff.1 h1).1
      have hc : l.count c = (l.drop (o + 1)).count c + 1 := by
        conv => lhs; rw [e]
        rw [List.count_append, List.count_eq_zero.2 hn, List.count_cons_self]
        omega
      have hx : index l [c] = (o : Int) := by rw [index_one]; exact ho
      rw [hc, splitK, hx, if_neg (by simp), Int.toNat_natCast, Nat.add_zero]
      show _ :: splitK [c] 0 _ (l.drop (o + 1)) = _
      rw [ih _ (by rw [List.length_drop]; omega)]
      conv => rhs; rw [e]
      rw [cutL_hit c _ _ hn]
theorem split_bytes (c : UInt8) (s : ByteArray) : (splitB ⟨#[c]⟩ 0 (countB s ⟨#[c]⟩) s).map (·.data.toList) = cutL c s.data.toList := by
  have h : countB s ⟨#[c]⟩ = s.data.toList.count c := count_one c s.data.toList
  rw [splitB_data, h]
  exact splitK_cut c _ _ (Nat.le_refl _)
abbrev bv (l : Bs) : Value := .string ⟨l.toArray⟩
theorem bv_data (s : ByteArray) : bv s.data.toList = .string s := by
  unfold bv
  rfl
theorem split_vals (c : UInt8) (l : Bs) : (splitB ⟨#[c]⟩ 0 (countB ⟨l.toArray⟩ ⟨#[c]⟩) ⟨l.toArray⟩).map Value.string = (cutL c l).map bv := by
  have := split_bytes c ⟨l.toArray⟩
  rw [← this, List.map_map]
  rfl
end Go.Proofs.YtjofegjiakjjhaaDoor
/- Script, plain law: steps as lines. -/
namespace Go.Proofs.YtjofegjiakjjhaaDoor
open Go.Lib

inductive Fd where
  | g | p | s | a | w | t | x | v | o | r | l | f
  deriving DecidableEq
structure St where
  kind : Int := 0
  guest : Int := 0
  addr : Int := 0
  size : Int := 0
  value : Int := 0
  page : Int := 0
  on : Bool := false
  asid : Int := 0
  what : Int := 0
  set : Int := 0
  way : Int := 0
  fails : List Bool := []
structure St.wf (s : St) : Prop where
  a0 : 0 ≤ s.addr
  a1 : s.addr < 18446744073709551616
  v0 : 0 ≤ s.value
  v1 : s.value < 18446744073709551616
def decW (n : Int) : Option Bs := if 0 ≤ n ∧ n < 2147483648 then some (decDigits n.toNat) else none
def failW (l : List Bool) : Bs := if l = [] then [45] else l.map fun b => if b then 120 else 111
def whatW (n : Int) : Option Bs := if n = 1 then some [97, 108, 108] else if n = 2 then some [97, 115, 105, 100] else if n = 3 then some [118, 97] else none
/-- A field's word. -/
def wrd (s : St) : Fd → Option Bs
  | .g => decW s.guest
  | .p => decW s.page
  | .s => decW s.size
  | .a => decW s.asid
  | .w => decW s.way
  | .t => decW s.set
  | .x => some (hexW s.addr.toNat)
  | .v => some (hexW s.value.toNat)
  | .o => some (if s.on then [111, 110] else [111, 102, 102])
  | .r => some (if s.on then [114, 119] else [114, 111])
  | .l => whatW s.what
  | .f => some (failW s.fails)
/-- A field taken over. -/
def put1 (s d : St) : Fd → St
  | .g => { d with guest := s.guest }
  | .p => { d with page := s.page }
  | .s => { d with size := s.size }
  | .a => { d with asid := s.asid }
  | .w => { d with way := s.way }
  | .t => { d with set := s.set }
  | .x => { d with addr := s.addr }
  | .v => { d with value := s.value }
  | .o => { d with on := s.on }
  | .r => { d with on := s.on }
  | .l => { d with what := s.what }
  | .f => { d with fails := d.fails ++ s.fails }
def maskS (s : St) (fs : List Fd) : St := fs.foldl (put1 s) { kind := s.kind }
def Same1 (a b : St) : Prop := a.kind = b.kind ∧ a.guest = b.guest ∧ a.addr = b.addr ∧ a.size = b.size ∧ a.value = b.value ∧ a.page = b.page ∧ a.on = b.on ∧ a.asid = b.asid ∧ a.what = b.what ∧ a.set = b.set ∧ a.way = b.way
instance (a b : St) : Decidable (Same1 a b) := by unfold Same1; infer_instance
def wrds (s : St) : List Fd → Option (List Bs)
  | [] => some []
  | c :: fs => match wrd s c with
    | none => none
    | some w => match wrds s fs with
      | none => none
      | some ws => some (w :: ws)
def kdT : List (Bs × List Fd) := [([], []), ([108, 111, 97, 100], [.g, .x, .s, .w]), ([115, 116, 111, 114, 101], [.g, .x, .s, .v, .w]), ([102, 101, 116, 99, 104], [.g, .x, .s, .w]), ([114, 111, 111, 116], [.g, .o, .x, .a]), ([102, 108, 117, 115, 104], [.g, .l, .a, .x]), ([111, 102, 102, 101, 114], [.g, .x]), ([114, 101, 118, 111, 107, 101], [.g, .x]), ([103, 105, 118, 101], [.g, .x]), ([99, 114, 101, 97, 116, 101], []), ([100, 101, 115, 116, 114, 111, 121], [.g]), ([100, 111, 110, 97, 116, 101], [.g, .x]), ([98, 108, 111, 99, 107], [.g, .x]), ([110, 101, 119], []), ([100, 114, 111, 112], [.p]), ([108, 101, 110, 100], [.p, .g, .x, .r]), ([114, 101, 116, 117, 114, 110], [.g, .x]), ([103, 101, 116], [.p, .x, .s]), ([112, 117, 116], [.p, .x, .s, .v]), ([112, 101, 101, 107], [.g, .x, .s]), ([112, 111, 107, 101], [.g, .x, .s, .v]), ([109, 101, 114, 103, 101], [.g, .x]), ([111, 117, 116], [.g, .x]), ([105, 110], [.g, .x]), ([99, 111, 108, 100], []), ([108, 111, 103], [.g]), ([117, 110, 108, 111, 103], [.g]), ([99, 111, 108, 108, 101, 99, 116], [.g]), ([115, 112, 108, 105, 116], [.g, .x]), ([106, 111, 105, 110], [.g, .x]), ([101, 118, 105, 99, 116], [.t, .w]), ([102, 97, 105, 108], [.f]), ([102, 97, 100, 101], [])]
/-- A step as a line. -/
def TextS (s : St) : Bs × Int :=
  if s.kind < 1 ∨ 32 < s.kind then ([], 1) else
  match kdT[s.kind.toNat]? with
  | none => ([], 1)
  | some (w0, fs) => match wrds s fs with
    | none => ([], 1)
    | some ws => if ¬ Same1 s (maskS s fs) ∨ (s.kind ≠ 31 ∧ s.fails ≠ []) then ([], 1) else if 1000 < s.fails.length then ([], 2) else (join (w0 :: ws) [32], 0)
/-- The line l is the step s. -/
def IsT (s : St) (l : Bs) : Prop := ∃ (n : Nat) (w0 : Bs) (fs : List Fd) (ws : List Bs), s.kind = n ∧ 1 ≤ n ∧ n ≤ 32 ∧ kdT[n]? = some (w0, fs) ∧ wrds s fs = some ws ∧ Same1 s (maskS s fs) ∧ (n = 31 ∨ s.fails = []) ∧ s.fails.length ≤ 1000 ∧ l = join (w0 :: ws) [32]
theorem textS_ok {s : St} {l : Bs} (h : TextS s = (l, 0)) : IsT s l := by
  unfold TextS at h
  by_cases h1 : s.kind < 1 ∨ 32 < s.kind
  · rw [if_pos h1] at h; cases h
  · rw [if_neg h1] at h
    cases h2 : kdT[s.kind.toNat]? with
    | none => rw [h2] at h; cases h
    | some p =>
      obtain ⟨w0, fs⟩ := p
      rw [h2] at h
      dsimp only at h
      cases h3 : wrds s fs with
      | none => rw [h3] at h; cases h
      | some ws =>
        rw [h3] at h
        dsimp only at h
        by_cases h4 : ¬ Same1 s (maskS s fs) ∨ (s.kind ≠ 31 ∧ s.fails ≠ [])
        · rw [if_pos h4] at h; cases h
        · rw [if_neg h4] at h
          by_cases h5 : 1000 < s.fails.length
          · rw [if_pos h5] at h; cases h
          · rw [if_neg h5] at h
            injection h with h _
            refine ⟨s.kind.toNat, w0, fs, ws, by omega, by omega, by omega, h2, h3, Classical.byContradiction fun e => h4 (.inl e), ?_, by omega, h.symm⟩
            by_cases e : s.fails = []
            · exact .inr e
            · exact .inl (by have : s.kind = 31 := Classical.byContradiction fun e1 => h4 (.inr ⟨e1, e⟩); omega)
theorem textS_of {s : St} {l : Bs} (h : IsT s l) : TextS s = (l, 0) := by
  obtain ⟨n, w0, fs, ws, h1, h2, h3, h4, h5, h6, h7, h8, rfl⟩ := h
  unfold TextS
  rw [if_neg (by omega), h1, Int.toNat_natCast, h4]
  dsimp only
  rw [h5]
  dsimp only
  rw [if_neg (fun e => e.elim (fun e => e h6) (fun e => h7.elim (fun k => e.1 (by omega)) e.2)), if_neg (by omega)]
theorem no32 {s : St} {c : Fd} {w : Bs} (h : wrd s c = some w) : (32 : UInt8) ∉ w := by
  have hdec : ∀ n w, decW n = some w → (32 : UInt8) ∉ w := fun n w h hm => by
    unfold decW at h
    split at h
    · injection h with h; subst h
      obtain ⟨k, hk, e⟩ := decD_mem _ _ hm
      have := congrArg UInt8.toNat e
      rw [decB hk] at this
      simp at this; omega
    · cases h
  have hhex : ∀ n, (32 : UInt8) ∉ hexW n := fun n hm => by
    unfold hexW at hm
    rw [List.mem_cons, List.mem_cons] at hm
    rcases hm with hm | hm | hm
    · revert hm; decide
    · revert hm; decide
    · obtain ⟨k, hk, e⟩ := hexD_mem _ _ hm
      have : ∀ k : Fin 16, (32 : UInt8) ≠ hdg k.1 := by decide
      exact this ⟨k, hk⟩ e
  cases c <;> unfold wrd at h
  case g => exact hdec _ _ h
  case p => exact hdec _ _ h
  case s => exact hdec _ _ h
  case a => exact hdec _ _ h
  case w => exact hdec _ _ h
  case t => exact hdec _ _ h
  case x => injection h with h; subst h; exact hhex _
  case v => injection h with h; subst h; exact hhex _
  case o => injection h with h; subst h; split <;> decide
  case r => injection h with h; subst h; split <;> decide
  case l =>
    dsimp only at h
    unfold whatW at h
    split at h
    · injection h with h; subst h; decide
    · split at h
      · injection h with h; subst h; decide
      · split at h
        · injection h with h; subst h; decide
        · cases h
  case f =>
    injection h with h; subst h
    unfold failW
    split
    · decide
    · intro hm
      obtain ⟨b, _, e⟩ := List.mem_map.1 hm
      cases b <;> revert e <;> decide
theorem wrds_no32 {s : St} : ∀ {fs : List Fd} {ws : List Bs}, wrds s fs = some ws → ∀ w ∈ ws, (32 : UInt8) ∉ w
  | [], ws, h => by injection h with h; subst h; intro w hw; cases hw
  | c :: fs, ws, h => by
    unfold wrds at h
    cases h1 : wrd s c with
    | none => rw [h1] at h; cases h
    | some w =>
      rw [h1] at h
      dsimp only at h
      cases h2 : wrds s fs with
      | none => rw [h2] at h; cases h
      | some ws' =>
        rw [h2] at h
        dsimp only at h
        injection h with h; subst h
        intro x hx
        rw [List.mem_cons] at hx
        rcases hx with rfl | hx
        · exact no32 h1
        · exact wrds_no32 h2 x hx
theorem wrds_len {s : St} : ∀ {fs : List Fd} {ws : List Bs}, wrds s fs = some ws → ws.length = fs.length
  | [], ws, h => by injection h with h; subst h; rfl
  | c :: fs, ws, h => by
    unfold wrds at h
    cases h1 : wrd s c with
    | none => rw [h1] at h; cases h
    | some w =>
      rw [h1] at h
      dsimp only at h
      cases h2 : wrds s fs with
      | none => rw [h2] at h; cases h
      | some ws' =>
        rw [h2] at h
        dsimp only at h
        injection h with h; subst h
        rw [List.length_cons, List.length_cons, wrds_len h2]
theorem kd_no32 : ∀ (n : Nat) (w0 : Bs) (fs : List Fd), kdT[n]? = some (w0, fs) → (32 : UInt8) ∉ w0 := by
  have : ∀ p ∈ kdT, (32 : UInt8) ∉ p.1 := by decide
  intro n w0 fs h
  exact this _ (List.mem_of_getElem? h)
theorem kd_inj {n m : Nat} {w0 : Bs} {fs gs : List Fd} (hn : kdT[n]? = some (w0, fs)) (hm : kdT[m]? = some (w0, gs)) : n = m := by
  have : ∀ i j : Fin 33, (kdT[i.1]?.map (·.1)) = (kdT[j.1]?.map (·.1)) → i = j := by decide
  have h1 := (List.getElem?_eq_some_iff.1 hn).1
  have h2 := (List.getElem?_eq_some_iff.1 hm).1
  have := this ⟨n, h1⟩ ⟨m, h2⟩ (by rw [hn, hm]; rfl)
  exact congrArg Fin.val this
/-- A line's words. -/
theorem isT_cut {s : St} {l : Bs} (h : IsT s l) : ∃ (n : Nat) (w0 : Bs) (fs : List Fd) (ws : List Bs), s.kind = n ∧ 1 ≤ n ∧ n ≤ 32 ∧ kdT[n]? = some (w0, fs) ∧ wrds s fs = some ws ∧ Same1 s (maskS s fs) ∧ (n = 31 ∨ s.fails = []) ∧ cutL 32 l = w0 :: ws := by
  obtain ⟨n, w0, fs, ws, h1, h2, h3, h4, h5, h6, h7, h8, rfl⟩ := h
  refine ⟨n, w0, fs, ws, h1, h2, h3, h4, h5, h6, h7, cutL_join 32 w0 ws fun a ha => ?_⟩
  rw [List.mem_cons] at ha
  rcases ha with rfl | ha
  · exact kd_no32 _ _ _ h4
  · exact wrds_no32 h5 a ha
/-- A field out of a word: the document's. -/
def whatR (w : Bs) (d : Int) : Int := if w = [97, 108, 108] then 1 else if w = [97, 115, 105, 100] then 2 else if w = [118, 97] then 3 else d
def failR (w : Bs) : List Bool := if w = [45] then [] else w.map fun b => b == 120
def setR (d : St) (c : Fd) (w : Bs) : St := match c with
  | .g => { d with guest := max 0 (numR w) }
  | .p => { d with page := max 0 (numR w) }
  | .s => { d with size := max 0 (numR w) }
  | .a => { d with asid := max 0 (numR w) }
  | .w => { d with way := max 0 (numR w) }
  | .t => { d with set := max 0 (numR w) }
  | .x => { d with addr := hexR w }
  | .v => { d with value := hexR w }
  | .o => { d with on := w == [111, 110] || w == [114, 119] }
  | .r => { d with on := w == [111, 110] || w == [114, 119] }
  | .l => { d with what := whatR w d.what }
  | .f => { d with fails := d.fails ++ failR w }
theorem failR_W (l : List Bool) : failR (failW l) = l := by
  unfold failR failW
  by_cases h : l = []
  · rw [if_pos h, if_pos rfl, h]
  · rw [if_neg h, if_neg, List.map_map]
    · conv => rhs; rw [← List.map_id l]
      exact List.map_congr_left fun b _ => by cases b <;> rfl
    · intro e
      cases l with
      | nil => exact h rfl
      | cons b l => rw [List.map_cons] at e; injection e with e _; revert e; cases b <;> decide
theorem whatR_W {n d : Int} {w : Bs} (h : whatW n = some w) : whatR w d = n := by
  unfold whatW at h
  split at h
  · injection h with h; subst h; unfold whatR; rw [if_pos rfl]; omega
  · split at h
    · injection h with h; subst h
      unfold whatR; rw [if_neg (by decide), if_pos rfl]; omega
    · split at h
      · injection h with h; subst h
        unfold whatR; rw [if_neg (by decide), if_neg (by decide), if_pos rfl]; omega
      · cases h
theorem setR_wrd {s d : St} {c : Fd} {w : Bs} (hs : s.wf) (h : wrd s c = some w) : setR d c w = put1 s d c := by
  have hdec : ∀ n w, decW n = some w → max 0 (numR w) = n := fun n w h => by
    unfold decW at h
    split at h
    · rename_i hn
      injection h with h; subst h
      rw [numR_dec (by omega)]; omega
    · cases h
  cases c <;> unfold wrd at h <;> dsimp only at h <;> unfold setR put1 <;> dsimp only
  case g => rw [hdec _ _ h]
  case p => rw [hdec _ _ h]
  case s => rw [hdec _ _ h]
  case a => rw [hdec _ _ h]
  case w => rw [hdec _ _ h]
  case t => rw [hdec _ _ h]
  case x => injection h with h; subst h; have := hs.a0; have := hs.a1; rw [hexR_hex (by omega), Int.toNat_of_nonneg hs.a0]
  case v => injection h with h; subst h; have := hs.v0; have := hs.v1; rw [hexR_hex (by omega), Int.toNat_of_nonneg hs.v0]
  case o => injection h with h; subst h; cases s.on <;> rfl
  case r => injection h with h; subst h; cases s.on <;> rfl
  case l => rw [whatR_W h]
  case f => injection h with h; subst h; rw [failR_W]
/-- A field out of a word: the program's; none: it is refused. -/
def atoiO (w : Bs) : Option Int := match atoiAll w with | .ok v => some v | _ => none
def hexO (w : Bs) : Option Int := if w = [] then none else match puG 0 w with | .ok v => some (v : Int) | _ => none
def trim (w : Bs) : Bs := if [48, 120].isPrefixOf w then w.drop 2 else w
def setP (d : St) (c : Fd) (w : Bs) : Option St := match c with
  | .g => (atoiO w).map fun v => { d with guest := v }
  | .p => (atoiO w).map fun v => { d with page := v }
  | .s => (atoiO w).map fun v => { d with size := v }
  | .a => (atoiO w).map fun v => { d with asid := v }
  | .w => (atoiO w).map fun v => { d with way := v }
  | .t => (atoiO w).map fun v => { d with set := v }
  | .x => (hexO (trim w)).map fun v => { d with addr := (v : Int) }
  | .v => (hexO (trim w)).map fun v => { d with value := (v : Int) }
  | .o => some { d with on := w == [111, 110] }
  | .r => some { d with on := w == [114, 119] }
  | .l => some { d with what := whatR w d.what }
  | .f => some { d with fails := d.fails ++ failR w }
theorem setP_wrd {s d : St} {c : Fd} {w : Bs} (hs : s.wf) (h : wrd s c = some w) : setP d c w = some (put1 s d c) := by
  have hdec : ∀ n w, decW n = some w → atoiO w = some n := fun n w h => by
    unfold decW at h
    split at h
    · rename_i hn
      injection h with h; subst h
      unfold atoiO
      rw [atoi_dec (by omega)]
      dsimp only
      rw [Int.toNat_of_nonneg hn.1]
    · cases h
  have hhex : ∀ n : Int, 0 ≤ n → n < 18446744073709551616 → hexO (trim (hexW n.toNat)) = some n := fun n h0 h1 => by
    have : trim (hexW n.toNat) = hexD n.toNat := by
      unfold trim hexW
      rfl
    rw [this]
    unfold hexO
    rw [if_neg (hexD_ne _), puG_hex _ (by omega)]
    dsimp only
    rw [Int.toNat_of_nonneg h0]
  cases c <;> unfold wrd at h <;> dsimp only at h <;> unfold setP put1 <;> dsimp only
  case g => rw [hdec _ _ h]; rfl
  case p => rw [hdec _ _ h]; rfl
  case s => rw [hdec _ _ h]; rfl
  case a => rw [hdec _ _ h]; rfl
  case w => rw [hdec _ _ h]; rfl
  case t => rw [hdec _ _ h]; rfl
  case x =>
    injection h with h; subst h
    rw [hhex _ hs.a0 hs.a1]; rfl
  case v =>
    injection h with h; subst h
    rw [hhex _ hs.v0 hs.v1]; rfl
  case o => injection h with h; subst h; cases s.on <;> rfl
  case r => injection h with h; subst h; cases s.on <;> rfl
  case l => rw [whatR_W h]
  case f => injection h with h; subst h; rw [failR_W]
/-- All fields. -/
def setAllR : St → List Fd → List Bs → St
  | d, c :: fs, w :: ws => setAllR (setR d c w) fs ws
  | d, _, _ => d
def setAllP : St → List Fd → List Bs → Option St
  | d, c :: fs, w :: ws => match setP d c w with
    | none => none
    | some d' => setAllP d' fs ws
  | d, _, _ => some d
theorem setAllR_wrds {s : St} (hs : s.wf) : ∀ {fs : List Fd} {ws : List Bs} (d : St), wrds s fs = some ws → setAllR d fs ws = fs.foldl (put1 s) d
  | [], ws, d, h => by injection h with h; subst h; rfl
  | c :: fs, ws, d, h => by
    unfold wrds at h
    cases h1 : wrd s c with
    | none => rw [h1] at h; cases h
    | some w =>
      rw [h1] at h
      dsimp only at h
      cases h2 : wrds s fs with
      | none => rw [h2] at h; cases h
      | some ws' =>
        rw [h2] at h
        dsimp only at h
        injection h with h; subst h
        rw [setAllR, setR_wrd hs h1, setAllR_wrds hs _ h2]
        rfl
theorem setAllP_wrds {s : St} (hs : s.wf) : ∀ {fs : List Fd} {ws : List Bs} (d : St), wrds s fs = some ws → setAllP d fs ws = some (fs.foldl (put1 s) d)
  | [], ws, d, h => by injection h with h; subst h; rfl
  | c :: fs, ws, d, h => by
    unfold wrds at h
    cases h1 : wrd s c with
    | none => rw [h1] at h; cases h
    | some w =>
      rw [h1] at h
      dsimp only at h
      cases h2 : wrds s fs with
      | none => rw [h2] at h; cases h
      | some ws' =>
        rw [h2] at h
        dsimp only at h
        injection h with h; subst h
        rw [setAllP, setP_wrd hs h1]
        dsimp only
        rw [setAllP_wrds hs _ h2]
        rfl
theorem mask_fails {s : St} : ∀ (fs : List Fd) (d : St), Fd.f ∉ fs → (fs.foldl (put1 s) d).fails = d.fails
  | [], _, _ => rfl
  | c :: fs, d, h => by
    rw [List.mem_cons, not_or] at h
    rw [List.foldl_cons, mask_fails fs _ h.2]
    cases c <;> first | rfl | exact absurd rfl h.1
theorem kd_f {n : Nat} {w0 : Bs} {fs : List Fd} (h : kdT[n]? = some (w0, fs)) : (n = 31 → fs = [.f]) ∧ (n ≠ 31 → Fd.f ∉ fs) := by
  have : ∀ i : Fin 33, ∀ p ∈ kdT[i.1]?, (i.1 = 31 → p.2 = [.f]) ∧ (i.1 ≠ 31 → Fd.f ∉ p.2) := by decide
  exact this ⟨n, (List.getElem?_eq_some_iff.1 h).1⟩ _ h
theorem isT_mask {s : St} {n : Nat} {w0 : Bs} {fs : List Fd} (hk : kdT[n]? = some (w0, fs)) (h6 : Same1 s (maskS s fs)) (h7 : n = 31 ∨ s.fails = []) : maskS s fs = s := by
  have hf : (maskS s fs).fails = s.fails := by
    obtain ⟨k1, k2⟩ := kd_f hk
    by_cases h : n = 31
    · rw [k1 h]; rfl
    · unfold maskS; rw [mask_fails _ _ (k2 h)]
      rcases h7 with h7 | h7
      · exact absurd h7 h
      · exact h7.symm
  obtain ⟨e1, e2, e3, e4, e5, e6, e7, e8, e9, e10, e11⟩ := h6
  cases s
  generalize maskS _ fs = m at *
  cases m
  simp_all
/-- What a line might be. -/
def candR (n : Nat) (ws : List Bs) : Option St := match kdT[n]? with
  | none => none
  | some (w0, fs) => if ws.head? = some w0 ∧ ws.length = fs.length + 1 then some (setAllR { kind := n } fs ws.tail) else none
theorem isT_cand {s : St} {l : Bs} (hs : s.wf) (h : IsT s l) : ∃ (n : Nat) (w0 : Bs) (fs : List Fd) (ws : List Bs), s.kind = n ∧ 1 ≤ n ∧ n ≤ 32 ∧ kdT[n]? = some (w0, fs) ∧ ws.length = fs.length ∧ cutL 32 l = w0 :: ws ∧ setAllR { kind := n } fs ws = s ∧ setAllP { kind := n } fs ws = some s := by
  obtain ⟨n, w0, fs, ws, h1, h2, h3, h4, h5, h6, h7, h8⟩ := isT_cut h
  have e := isT_mask h4 h6 h7
  unfold maskS at e
  rw [h1] at e
  exact ⟨n, w0, fs, ws, h1, h2, h3, h4, wrds_len h5, h8, by rw [setAllR_wrds hs _ h5, e], by rw [setAllP_wrds hs _ h5, e]⟩
theorem isT_unique {s s' : St} {l : Bs} (hs : s.wf) (hs' : s'.wf) (h : IsT s l) (h' : IsT s' l) : s = s' := by
  obtain ⟨n, w0, fs, ws, h1, h2, h3, h4, h5, h6, h7, _⟩ := isT_cand hs h
  obtain ⟨m, w0', gs, vs, k1, k2, k3, k4, k5, k6, k7, _⟩ := isT_cand hs' h'
  rw [h6] at k6
  injection k6 with e1 e2
  subst e1 e2
  obtain rfl := kd_inj h4 k4
  rw [h4] at k4
  injection k4 with k4
  injection k4 with _ k4
  subst k4
  rw [← h7, k7]
/-- How a line is read. -/
inductive ParseIs (l : Bs) : St → Int → Prop where
  | long (h : 1100 < l.length) : ParseIs l {} 2
  | is {s : St} (h : l.length ≤ 1100) (hs : s.wf) (ht : IsT s l) : ParseIs l s 0
  | none (h : l.length ≤ 1100) (ht : ∀ s : St, s.wf → ¬ IsT s l) : ParseIs l {} 4
theorem ParseIs.unique {l : Bs} {s s' : St} {e e' : Int} (h : ParseIs l s e) (k : ParseIs l s' e') : s = s' ∧ e = e' := by
  cases h with
  | long h => cases k with
    | long k => exact ⟨rfl, rfl⟩
    | is k => omega
    | none k => omega
  | is h hs ht => cases k with
    | long k => omega
    | is k ks kt => exact ⟨isT_unique hs ks ht kt, rfl⟩
    | none k kt => exact absurd ht (kt _ hs)
  | none h ht => cases k with
    | long k => omega
    | is k ks kt => exact absurd kt (ht _ ks)
    | none k kt => exact ⟨rfl, rfl⟩
end Go.Proofs.YtjofegjiakjjhaaDoor
