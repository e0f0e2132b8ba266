import Derived.Test.YtjofegjiakjjhaaDoorMSru
import Derived.Shelf.Strconv.ToError
import Derived.Shelf.Strconv.ToErrorRange
import Derived.Test.YtjofegjiakjjhaaDoorMSrf
/- Script, the program: strconv.ParseUint at base 16. -/
namespace Go.Proofs
open Go.Shelf
def Tryd.lays245_ren : Go.Shelf.Ren := ⟨fun | 245 => 62 | 279 => 74 | 280 => 75 | 281 => 76 | 282 => 77 | 316 => 90 | 171 => 35 | 205 => 91 | 243 => 54 | 246 => 65 | 283 => 81 | 284 => 82 | 285 => 83 | 286 => 84 | 129 => 93 | 317 => 92 | 318 => 94 | 319 => 95 | 320 => 96 | 337 => 99 | 338 => 100 | n => n, fun | 9 => 9 | 3 => 3 | 75 => 80 | 167 => 111 | 4 => 4 | 168 => 114 | 210 => 129 | 37 => 35 | 0 => 0 | 127 => 100 | 145 => 145 | 143 => 143 | 2 => 2 | 171 => 121 | 53 => 22 | 5 => 5 | 173 => 124 | 212 => 132 | 51 => 133 | 20 => 20 | 213 => 134 | 46 => 118 | 232 => 147 | 233 => 148 | 80 => 84 | n => n, fun | 15 => 1 | 16 => 2 | 17 => 3 | 18 => 6 | 19 => 7 | n => n⟩
theorem Tryd.lays245 : Go.Proofs.LaysC.n245 Tryd.prog Tryd.lays245_ren where
  mixed := by kernel_rfl
  f129 := Tryd.func93.trans (congrArg some (by kernel_rfl))
  f171 := Tryd.func35.trans (congrArg some (by kernel_rfl))
  f205 := Tryd.func91.trans (congrArg some (by kernel_rfl))
  f243 := Tryd.func54.trans (congrArg some (by kernel_rfl))
  f245 := Tryd.func62.trans (congrArg some (by kernel_rfl))
  f246 := Tryd.func65.trans (congrArg some (by kernel_rfl))
  f279 := Tryd.func74.trans (congrArg some (by kernel_rfl))
  f280 := Tryd.func75.trans (congrArg some (by kernel_rfl))
  f281 := Tryd.func76.trans (congrArg some (by kernel_rfl))
  f282 := Tryd.func77.trans (congrArg some (by kernel_rfl))
  f283 := Tryd.func81.trans (congrArg some (by kernel_rfl))
  f284 := Tryd.func82.trans (congrArg some (by kernel_rfl))
  f285 := Tryd.func83.trans (congrArg some (by kernel_rfl))
  f286 := Tryd.func84.trans (congrArg some (by kernel_rfl))
  f316 := Tryd.func90.trans (congrArg some (by kernel_rfl))
  f317 := Tryd.func92.trans (congrArg some (by kernel_rfl))
  f318 := Tryd.func94.trans (congrArg some (by kernel_rfl))
  f319 := Tryd.func95.trans (congrArg some (by kernel_rfl))
  f320 := Tryd.func96.trans (congrArg some (by kernel_rfl))
  f337 := Tryd.func99.trans (congrArg some (by kernel_rfl))
  f338 := Tryd.func100.trans (congrArg some (by kernel_rfl))
  t0 := Tryd.underlying0
  a0 := Tryd.isAgg0
  z0 := Tryd.sizeOf0
  v0 := Tryd.zeroValue0
  t2 := Tryd.underlying2
  a2 := Tryd.isAgg2
  z2 := Tryd.sizeOf2
  v2 := Tryd.zeroValue2
  t3 := Tryd.underlying3
  a3 := Tryd.isAgg3
  z3 := Tryd.sizeOf3
  v3 := Tryd.zeroValue3
  t4 := Tryd.underlying4
  a4 := Tryd.isAgg4
  z4 := Tryd.sizeOf4
  v4 := Tryd.zeroValue4
  t5 := Tryd.underlying5
  a5 := Tryd.isAgg5
  z5 := Tryd.sizeOf5
  v5 := Tryd.zeroValue5
  t9 := Tryd.underlying9
  a9 := Tryd.isAgg9
  z9 := Tryd.sizeOf9
  v9 := Tryd.zeroValue9
  t20 := Tryd.underlying20
  a20 := Tryd.isAgg20
  z20 := Tryd.sizeOf20
  v20 := Tryd.zeroValue20
  t37 := Tryd.underlying35
  a37 := Tryd.isAgg35
  z37 := Tryd.sizeOf35
  v37 := Tryd.zeroValue35
  t46 := Tryd.underlying118
  a46 := Tryd.isAgg118
  z46 := Tryd.sizeOf118
  v46 := Tryd.zeroValue118
  t51 := Tryd.underlying133
  a51 := Tryd.isAgg133
  z51 := Tryd.sizeOf133
  v51 := Tryd.zeroValue133
  t53 := Tryd.underlying22
  a53 := Tryd.isAgg22
  z53 := Tryd.sizeOf22
  v53 := Tryd.zeroValue22
  t75 := Tryd.underlying80
  a75 := Tryd.isAgg80
  z75 := Tryd.sizeOf80
  v75 := Tryd.zeroValue80
  t127 := Tryd.underlying100
  a127 := Tryd.isAgg100
  z127 := Tryd.sizeOf100
  v127 := Tryd.zeroValue100
  t143 := Tryd.underlying143
  a143 := Tryd.isAgg143
  z143 := Tryd.sizeOf143
  v143 := Tryd.zeroValue143
  t145 := Tryd.underlying145
  a145 := Tryd.isAgg145
  z145 := Tryd.sizeOf145
  v145 := Tryd.zeroValue145
  t167 := Tryd.underlying111
  a167 := Tryd.isAgg111
  z167 := Tryd.sizeOf111
  v167 := Tryd.zeroValue111
  t168 := Tryd.underlying114
  a168 := Tryd.isAgg114
  z168 := Tryd.sizeOf114
  v168 := Tryd.zeroValue114
  t171 := Tryd.underlying121
  a171 := Tryd.isAgg121
  z171 := Tryd.sizeOf121
  v171 := Tryd.zeroValue121
  t173 := Tryd.underlying124
  a173 := Tryd.isAgg124
  z173 := Tryd.sizeOf124
  v173 := Tryd.zeroValue124
  t210 := Tryd.underlying129
  a210 := Tryd.isAgg129
  z210 := Tryd.sizeOf129
  v210 := Tryd.zeroValue129
  t212 := Tryd.underlying132
  a212 := Tryd.isAgg132
  z212 := Tryd.sizeOf132
  v212 := Tryd.zeroValue132
  t213 := Tryd.underlying134
  a213 := Tryd.isAgg134
  z213 := Tryd.sizeOf134
  t232 := Tryd.underlying147
  a232 := Tryd.isAgg147
  z232 := Tryd.sizeOf147
  v232 := Tryd.zeroValue147
  t233 := Tryd.underlying148
  a233 := Tryd.isAgg148
  z233 := Tryd.sizeOf148
  v233 := Tryd.zeroValue148
  g15 := by kernel_rfl
  g16 := by kernel_rfl
  g17 := by kernel_rfl
  g18 := by kernel_rfl
  g19 := by kernel_rfl
  t80 := Tryd.underlying84
  a80 := Tryd.isAgg84
  z80 := Tryd.sizeOf84
  v80 := Tryd.zeroValue84
  i0 := by kernel_rfl
  i2 := by kernel_rfl
  i3 := by kernel_rfl
  i4 := by kernel_rfl
  i5 := by kernel_rfl
  i9 := by kernel_rfl
  i20 := by kernel_rfl
  i37 := by kernel_rfl
  i46 := by kernel_rfl
  i51 := by kernel_rfl
  i53 := by kernel_rfl
  i75 := by kernel_rfl
  i80 := by kernel_rfl
  i127 := by kernel_rfl
  i143 := by kernel_rfl
  i145 := by kernel_rfl
  i167 := by kernel_rfl
  i168 := by kernel_rfl
  i171 := by kernel_rfl
  i173 := by kernel_rfl
  i210 := by kernel_rfl
  i212 := by kernel_rfl
  i232 := by kernel_rfl
  i233 := by kernel_rfl
  m15 := by kernel_rfl
  m16 := by kernel_rfl
  m17 := by kernel_rfl
  m18 := by kernel_rfl
  m19 := by kernel_rfl
  c0 := by kernel_rfl
  c2 := by kernel_rfl
  c3 := by kernel_rfl
  c4 := by kernel_rfl
  c5 := by kernel_rfl
  c9 := by kernel_rfl
  c20 := by kernel_rfl
  c37 := by kernel_rfl
  c46 := by kernel_rfl
  c51 := by kernel_rfl
  c53 := by kernel_rfl
  c75 := by kernel_rfl
  c80 := by kernel_rfl
  c127 := by kernel_rfl
  c143 := by kernel_rfl
  c145 := by kernel_rfl
  c167 := by kernel_rfl
  c168 := by kernel_rfl
  c171 := by kernel_rfl
  c173 := by kernel_rfl
  c210 := by kernel_rfl
  c212 := by kernel_rfl
  c213 := by kernel_rfl
  c232 := by kernel_rfl
  c233 := by kernel_rfl

namespace YtjofegjiakjjhaaDoor
open Go.RowKit Go.Lib
theorem ltoErr (fn l : Bs) (hl : l.length ≤ 1000000) (k : Int) (hk : k = 1 ∨ k = 2) {w : World} (he : Env w) :
    Calls Tryd.prog 62 #[bv fn, bv l, .int .i64 16, .int .i64 64, .iface 111 (.int .i64 k)] w fun e w' => (∃ te pe, e = .returned (.iface te pe)) ∧ Below w.heap.size w w' := by
  have h9 : (⟨l.toArray⟩ : ByteArray).size = l.length := by simp [ByteArray.size]
  obtain ⟨te, pe, hsy⟩ := he.syn
  obtain ⟨te', pe', hrg⟩ := he.rng
  rcases hk with rfl | rfl
  · refine (Any.strconv_toError_range Tryd.lays245 ⟨fn.toArray⟩ ⟨l.toArray⟩ 16 64 _ w (by omega) hrg (.inr ⟨_, _, rfl⟩)).mono fun e w' hp => ?_
    obtain ⟨N, h1, _, _, h2⟩ := hp
    exact ⟨⟨_, _, h1⟩, h2⟩
  · refine (Any.strconv_toError_syntax Tryd.lays245 ⟨fn.toArray⟩ ⟨l.toArray⟩ 16 64 _ w (by omega) hsy (.inr ⟨_, _, rfl⟩)).mono fun e w' hp => ?_
    obtain ⟨N, h1, _, _, h2⟩ := hp
    exact ⟨⟨_, _, h1⟩, h2⟩
/-- strconv.ParseUint at base 16: some number, or an error. -/
theorem lpu (l : Bs) (hl : l.length ≤ 1000000) {w : World} (he : Env w) : Calls Tryd.prog 50 #[bv l, .int .i64 16, .int .i64 64] w fun e w' => ((∃ v, hexO l = some v ∧ e = .returned (.tuple #[.int .u64 v, .nilIface])) ∨ (∃ v te pe, hexO l = none ∧ e = .returned (.tuple #[.int .u64 v, .iface te pe]))) ∧ Below w.heap.size w w' := by
  go_enter Tryd.func50, Tryd.ntmps50
  go_wp2_with (first | (go_at_call 63; refine (lipu l hl _).mono ?_; rintro e w1 ⟨(⟨v, hv, rfl⟩ | ⟨v, k, hv, hk, rfl⟩), hb⟩) | (go_at_call 62; refine (ltoErr _ l hl _ hk (he.below hb)).mono ?_; rintro e w2 ⟨⟨te, pe, rfl⟩, hb2⟩) | fail)
  · go_ret2
    exact ⟨.inl ⟨v, hv, rfl⟩, hb⟩
  · go_ret2
    exact ⟨.inr ⟨v, te, pe, hv, rfl⟩, hb.trans (hb2.mono hb.size)⟩
end YtjofegjiakjjhaaDoor
end Go.Proofs
/- Script, plain laws beneath the program's Parse. -/
namespace Go.Proofs.YtjofegjiakjjhaaDoor
open Go.Lib

theorem atoiO_ok {x : Bs} {v : Int} (h : atoiO x = some v) : i64ok v := by
  unfold atoiO atoiAll at h
  cases x with
  | nil => simp at h
  | cons c r =>
    dsimp only at h
    generalize parseMag _ = e at h
    cases e with
    | range => simp at h
    | ok u =>
      dsimp only at h
      split at h
      · rename_i v' he
        injection h with h
        subst h
        split at he
        · cases he
        · rename_i h1
          split at he
          · cases he
          · rename_i h2
            injection he with he
            subst he
            split
            · rename_i h3
              exact ⟨by omega, by omega⟩
            · rename_i h3
              exact ⟨by omega, by omega⟩
      · cases h
    | _ => simp at h
theorem hexO_ok {x : Bs} {v : Int} (h : hexO x = some v) : 0 ≤ v ∧ v < 18446744073709551616 := by
  unfold hexO at h
  split at h
  · cases h
  · split at h
    · rename_i k he
      injection h with h
      subst h
      have := puG_lt (by omega) he
      omega
    · cases h
theorem setP_ok {d d' : St} {c : Fd} {x : Bs} (hd : d.ok) (h : setP d c x = some d') : d'.ok := by
  have hw : i64ok (whatR x d.what) := by
    unfold whatR
    split
    · exact ⟨by omega, by omega⟩
    · split
      · exact ⟨by omega, by omega⟩
      · split
        · exact ⟨by omega, by omega⟩
        · exact hd.what
  cases c <;> unfold setP at h <;> dsimp only at h
  case x =>
    obtain ⟨v, hv, rfl⟩ := Option.map_eq_some_iff.1 h
    have := hexO_ok hv
    exact { hd with a0 := this.1, a1 := this.2 }
  case v =>
    obtain ⟨v, hv, rfl⟩ := Option.map_eq_some_iff.1 h
    have := hexO_ok hv
    exact { hd with v0 := this.1, v1 := this.2 }
  case o => injection h with h; subst h; exact { hd with }
  case r => injection h with h; subst h; exact { hd with }
  case l => injection h with h; subst h; exact { hd with what := hw }
  case f => injection h with h; subst h; exact { hd with }
  case g => obtain ⟨v, hv, rfl⟩ := Option.map_eq_some_iff.1 h; exact { hd with guest := atoiO_ok hv }
  case p => obtain ⟨v, hv, rfl⟩ := Option.map_eq_some_iff.1 h; exact { hd with page := atoiO_ok hv }
  case s => obtain ⟨v, hv, rfl⟩ := Option.map_eq_some_iff.1 h; exact { hd with size := atoiO_ok hv }
  case a => obtain ⟨v, hv, rfl⟩ := Option.map_eq_some_iff.1 h; exact { hd with asid := atoiO_ok hv }
  case w => obtain ⟨v, hv, rfl⟩ := Option.map_eq_some_iff.1 h; exact { hd with way := atoiO_ok hv }
  case t => obtain ⟨v, hv, rfl⟩ := Option.map_eq_some_iff.1 h; exact { hd with set := atoiO_ok hv }
theorem setP_more {d d' : St} {c : Fd} {x : Bs} (h : setP d c x = some d') : d'.kind = d.kind ∧ d'.fails.length ≤ d.fails.length + x.length ∧ (c ≠ .f → d'.fails = d.fails) ∧ (c ≠ .l → d'.what = d.what) := by
  cases c <;> unfold setP at h <;> dsimp only at h
  case f =>
    injection h with h; subst h
    refine ⟨rfl, ?_, fun h => absurd rfl h, fun _ => rfl⟩
    show (d.fails ++ failR x).length ≤ _
    rw [List.length_append]
    unfold failR
    split
    · simp
    · rw [List.length_map]; omega
  case o => injection h with h; subst h; exact ⟨rfl, Nat.le_add_right _ _, fun _ => rfl, fun _ => rfl⟩
  case r => injection h with h; subst h; exact ⟨rfl, Nat.le_add_right _ _, fun _ => rfl, fun _ => rfl⟩
  case l => injection h with h; subst h; exact ⟨rfl, Nat.le_add_right _ _, fun _ => rfl, fun h => absurd rfl h⟩
  all_goals
    obtain ⟨v, hv, rfl⟩ := Option.map_eq_some_iff.1 h
    exact ⟨rfl, Nat.le_add_right _ _, fun _ => rfl, fun _ => rfl⟩
theorem setAllP_snoc : ∀ (fs : List Fd) (ws : List Bs) (d d1 : St) (i : Nat) (c : Fd) (x : Bs), fs[i]? = some c → ws[i]? = some x → setAllP d (fs.take i) (ws.take i) = some d1 → setAllP d (fs.take (i + 1)) (ws.take (i + 1)) = setP d1 c x
  | [], _, _, _, _, _, _, h, _, _ => by simp at h
  | _ :: _, [], _, _, _, _, _, _, h, _ => by simp at h
  | c0 :: fs, x0 :: ws, d, d1, 0, c, x, h1, h2, h3 => by
    simp only [List.getElem?_cons_zero, Option.some.injEq] at h1 h2
    subst h1 h2
    simp only [List.take_zero] at h3
    injection h3 with h3
    subst h3
    show (match setP d c0 x0 with | none => none | some d' => setAllP d' (fs.take 0) (ws.take 0)) = _
    cases setP d c0 x0 <;> rfl
  | c0 :: fs, x0 :: ws, d, d1, i + 1, c, x, h1, h2, h3 => by
    rw [List.getElem?_cons_succ] at h1 h2
    rw [List.take_succ_cons, List.take_succ_cons, setAllP] at h3
    rw [List.take_succ_cons, List.take_succ_cons, setAllP]
    cases h : setP d c0 x0 with
    | none => rw [h] at h3; cases h3
    | some d' =>
      rw [h] at h3
      exact setAllP_snoc fs ws d' d1 i c x h1 h2 h3
theorem setAllP_stop : ∀ (fs : List Fd) (ws : List Bs) (d d1 : St) (i : Nat) (c : Fd) (x : Bs), fs[i]? = some c → ws[i]? = some x → setAllP d (fs.take i) (ws.take i) = some d1 → setP d1 c x = none → setAllP d fs ws = none
  | [], _, _, _, _, _, _, h, _, _, _ => by simp at h
  | _ :: _, [], _, _, _, _, _, _, h, _, _ => by simp at h
  | c0 :: fs, x0 :: ws, d, d1, 0, c, x, h1, h2, h3, h4 => by
    simp only [List.getElem?_cons_zero, Option.some.injEq] at h1 h2
    subst h1 h2
    simp only [List.take_zero] at h3
    injection h3 with h3
    subst h3
    rw [setAllP, h4]
  | c0 :: fs, x0 :: ws, d, d1, i + 1, c, x, h1, h2, h3, h4 => by
    rw [List.getElem?_cons_succ] at h1 h2
    rw [List.take_succ_cons, List.take_succ_cons, setAllP] at h3
    rw [setAllP]
    cases h : setP d c0 x0 with
    | none => rfl
    | some d' =>
      rw [h] at h3
      exact setAllP_stop fs ws d' d1 i c x h1 h2 h3 h4
/-- Each letter stands once. -/
theorem kd_once {n : Nat} {w0 : Bs} {fs : List Fd} (h : kdT[n]? = some (w0, fs)) {i j : Nat} {c : Fd} (hi : fs[i]? = some c) (hj : fs[j]? = some c) : i = j := by
  have : ∀ n : Fin 33, ∀ p ∈ kdT[n.1]?, p.2.Nodup := by decide
  have hnd := this ⟨n, (List.getElem?_eq_some_iff.1 h).1⟩ _ h
  exact (List.getElem?_inj (List.getElem?_eq_some_iff.1 hi).1 hnd).1 (hi.trans hj.symm)
/-- A candidate decides. -/
theorem cand_none {n : Nat} {w0 : Bs} {fs : List Fd} {ws : List Bs} {l : Bs} (hk : kdT[n]? = some (w0, fs)) (hc : cutL 32 l = w0 :: ws) (hS : setAllP { kind := n } fs ws = none) (s : St) (hs : s.wf) : ¬ IsT s l := by
  intro h
  obtain ⟨m, v0, gs, vs, k1, k2, k3, k4, k5, k6, k7, k8⟩ := isT_cand hs h
  rw [hc] at k6
  injection k6 with e1 e2
  subst e1 e2
  obtain rfl := kd_inj hk k4
  rw [hk] at k4
  injection k4 with k4
  injection k4 with _ k4
  subst k4
  rw [hS] at k8
  cases k8
theorem cand_only {n : Nat} {w0 : Bs} {fs : List Fd} {ws : List Bs} {l : Bs} {d : St} (hk : kdT[n]? = some (w0, fs)) (hc : cutL 32 l = w0 :: ws) (hS : setAllP { kind := n } fs ws = some d) (hn : ¬ IsT d l) (s : St) (hs : s.wf) : ¬ IsT s l := by
  intro h
  obtain ⟨m, v0, gs, vs, k1, k2, k3, k4, k5, k6, k7, k8⟩ := isT_cand hs h
  rw [hc] at k6
  injection k6 with e1 e2
  subst e1 e2
  obtain rfl := kd_inj hk k4
  rw [hk] at k4
  injection k4 with k4
  injection k4 with _ k4
  subst k4
  rw [hS] at k8
  injection k8 with k8
  subst k8
  exact hn h
theorem cand_no {l : Bs} {x0 : Bs} {ws : List Bs} (hc : cutL 32 l = x0 :: ws) (hno : ∀ (j : Nat) (w0 : Bs) (fs : List Fd), 1 ≤ j → j ≤ 32 → kdT[j]? = some (w0, fs) → ¬ (w0 = x0 ∧ ws.length = fs.length)) (s : St) (hs : s.wf) : ¬ IsT s l := by
  intro h
  obtain ⟨m, v0, gs, vs, k1, k2, k3, k4, k5, k6, k7, k8⟩ := isT_cand hs h
  rw [hc] at k6
  injection k6 with e1 e2
  subst e1 e2
  exact hno m _ gs k2 k3 k4 ⟨rfl, k5⟩
end Go.Proofs.YtjofegjiakjjhaaDoor
/- Script, the program: get. -/
namespace Go.Proofs.YtjofegjiakjjhaaDoor
open Go.RowKit Go.Lib Mf

def GetIs (c : Fd) (F : Value) (r : Option St) (b : Nat) (w : World) (e : Ending) (w' : World) : Prop := ∃ F' ok d', (c ≠ .f → F' = F) ∧ e = .returned (.bool ok) ∧ r = (if ok then some d' else none) ∧ Blk w' b 25 (stC d' F') ∧ BRow w' (b + 1) F' d'.fails ∧ Below b w w'
theorem own_set {w : World} {b k : Nat} {F v : Value} {l : List Bool} (h : BRow w (b + 1) F l) : BRow (w.setCell ⟨b, k, none⟩ v) (b + 1) F l :=
  own_only h (Only.setCell (S := fun g => g = b) (Only.refl _ w) (p := ⟨b, k, none⟩) (.inl rfl) v) (fun g hg => by omega)
set_option maxRecDepth 20000 in
set_option maxHeartbeats 4000000 in
theorem lget_num (d : St) (c : Fd) {k : Nat} (hk : offF c = some k) (hk12 : k < 12) (F : Value) (x : Bs) (hx : x.length ≤ 1000000) (up : Int → St) (hup : ∀ v, stC (up v) F = (stC d F).setIfInBounds k (.int .i64 v)) (hfl : ∀ v, (up v).fails = d.fails) (hP : setP d c x = (atoiO x).map up) (b : Nat)
    {w : World} (he : Env w) (hb : Blk w b 25 (stC d F)) (ho : BRow w (b + 1) F d.fails) :
    Calls Tryd.prog 32 #[.pointer (some ⟨b, 0, none⟩), .int .u8 ((pcd c).toNat : Int), bv x] w (GetIs c F (setP d c x) b w) := by
  obtain ⟨z, hz⟩ : ∃ z : Int, ((pcd c).toNat : Int) = z := ⟨_, rfl⟩
  have HNm := Lib.hid (fun w => (show Calls Tryd.prog 42 #[.pointer (some ⟨b, 0, none⟩), .int .u8 z] w fun e w' => e = .returned (.pointer (some ⟨b, k, none⟩)) ∧ w = w' from by
    have := lnumber b c w
    rw [hk, hz] at this
    exact this))
  obtain ⟨y, hy⟩ : ∃ y, (stC d F)[k]? = some y := ⟨_, Array.getElem?_eq_getElem (by show k < 12; exact hk12)⟩
  rw [hz, hP]
  clear hz hP
  go_enter Tryd.func32, Tryd.ntmps32
  go_wp2_with fail
  refine (HNm.out _).mono ?_; rintro e _ ⟨rfl, rfl⟩
  go_wp2_with fail
  refine (latoi x (by omega) he).mono ?_
  rintro e w1 (⟨v, hv, rfl, hbe⟩ | ⟨v, te, pe, hv, rfl, hbe⟩)
  · have HB := Lib.hid (hb.below hbe hb.lt)
    have HO := Lib.hid (own_below ho hbe)
    have HBE := Lib.hid (hbe.mono (Nat.le_of_lt hb.lt))
    have hxc := (HB.out.cell k).trans hy
    have hxf := HB.out.frozen k
    clear hb ho hbe
    go_wp2
    go_ret
    exact ⟨F, true, up v, fun _ => rfl, rfl, by rw [hv]; rfl, by rw [hup]; exact HB.out.set_ k _, by rw [hfl]; exact own_set HO.out, HBE.out.setCell (p := ⟨b, k, none⟩) (Nat.le_refl _) _⟩
  · have HB := Lib.hid (hb.below hbe hb.lt)
    have HO := Lib.hid (own_below ho hbe)
    have HBE := Lib.hid (hbe.mono (Nat.le_of_lt hb.lt))
    have hxc := (HB.out.cell k).trans hy
    have hxf := HB.out.frozen k
    clear hb ho hbe
    go_wp2
    go_ret
    exact ⟨F, false, up v, fun _ => rfl, rfl, by rw [hv]; rfl, by rw [hup]; exact HB.out.set_ k _, by rw [hfl]; exact own_set HO.out, HBE.out.setCell (p := ⟨b, k, none⟩) (Nat.le_refl _) _⟩
set_option maxRecDepth 20000 in
set_option maxHeartbeats 4000000 in
theorem lget_x (d : St) (F : Value) (x : Bs) (hx : x.length ≤ 1000000) (b : Nat) {w : World} (he : Env w) (hb : Blk w b 25 (stC d F)) (ho : BRow w (b + 1) F d.fails) :
    Calls Tryd.prog 32 #[.pointer (some ⟨b, 0, none⟩), .int .u8 120, bv x] w (GetIs .x F (setP d .x x) b w) := by
  have HNm := Lib.hid (fun w => (show Calls Tryd.prog 42 #[.pointer (some ⟨b, 0, none⟩), .int .u8 120] w fun e w' => e = .returned (.pointer none) ∧ w = w' from lnumber b .x w))
  unfold setP
  dsimp only
  have htr : (trim x).length ≤ 1000000 := by
    unfold trim
    split
    · rw [List.length_drop]; omega
    · exact hx
  go_enter Tryd.func32, Tryd.ntmps32
  go_wp2_with fail
  refine (HNm.out _).mono ?_; rintro e _ ⟨rfl, rfl⟩
  go_wp2_with fail
  refine (ltrim x _).mono ?_; rintro e _ ⟨rfl, rfl⟩
  go_wp2_with fail
  refine (lpu (trim x) htr he).mono ?_
  rintro e w1 ⟨(⟨v, hv, rfl⟩ | ⟨v, te, pe, hv, rfl⟩), hbe⟩
  · have HB := Lib.hid (hb.below hbe hb.lt)
    have HO := Lib.hid (own_below ho hbe)
    have HBE := Lib.hid (hbe.mono (Nat.le_of_lt hb.lt))
    have hxc := (HB.out.cell 2).trans rfl
    have hxf := HB.out.frozen 2
    clear hb ho hbe
    go_wp2
    go_ret
    exact ⟨F, true, { d with addr := v }, fun _ => rfl, rfl, by rw [hv]; rfl, HB.out.set_ 2 _, own_set HO.out, HBE.out.setCell (p := ⟨b, 2, none⟩) (Nat.le_refl _) _⟩
  · have HB := Lib.hid (hb.below hbe hb.lt)
    have HO := Lib.hid (own_below ho hbe)
    have HBE := Lib.hid (hbe.mono (Nat.le_of_lt hb.lt))
    have hxc := (HB.out.cell 2).trans rfl
    have hxf := HB.out.frozen 2
    clear hb ho hbe
    go_wp2
    go_ret
    exact ⟨F, false, { d with addr := v }, fun _ => rfl, rfl, by rw [hv]; rfl, HB.out.set_ 2 _, own_set HO.out, HBE.out.setCell (p := ⟨b, 2, none⟩) (Nat.le_refl _) _⟩
set_option maxRecDepth 20000 in
set_option maxHeartbeats 4000000 in
theorem lget_v (d : St) (F : Value) (x : Bs) (hx : x.length ≤ 1000000) (b : Nat) {w : World} (he : Env w) (hb : Blk w b 25 (stC d F)) (ho : BRow w (b + 1) F d.fails) :
    Calls Tryd.prog 32 #[.pointer (some ⟨b, 0, none⟩), .int .u8 118, bv x] w (GetIs .v F (setP d .v x) b w) := by
  have HNm := Lib.hid (fun w => (show Calls Tryd.prog 42 #[.pointer (some ⟨b, 0, none⟩), .int .u8 118] w fun e w' => e = .returned (.pointer none) ∧ w = w' from lnumber b .v w))
  unfold setP
  dsimp only
  have htr : (trim x).length ≤ 1000000 := by
    unfold trim
    split
    · rw [List.length_drop]; omega
    · exact hx
  go_enter Tryd.func32, Tryd.ntmps32
  go_wp2_with fail
  refine (HNm.out _).mono ?_; rintro e _ ⟨rfl, rfl⟩
  go_wp2_with fail
  refine (ltrim x _).mono ?_; rintro e _ ⟨rfl, rfl⟩
  go_wp2_with fail
  refine (lpu (trim x) htr he).mono ?_
  rintro e w1 ⟨(⟨v, hv, rfl⟩ | ⟨v, te, pe, hv, rfl⟩), hbe⟩
  · have HB := Lib.hid (hb.below hbe hb.lt)
    have HO := Lib.hid (own_below ho hbe)
    have HBE := Lib.hid (hbe.mono (Nat.le_of_lt hb.lt))
    have hxc := (HB.out.cell 4).trans rfl
    have hxf := HB.out.frozen 4
    clear hb ho hbe
    go_wp2
    go_ret
    exact ⟨F, true, { d with value := v }, fun _ => rfl, rfl, by rw [hv]; rfl, HB.out.set_ 4 _, own_set HO.out, HBE.out.setCell (p := ⟨b, 4, none⟩) (Nat.le_refl _) _⟩
  · have HB := Lib.hid (hb.below hbe hb.lt)
    have HO := Lib.hid (own_below ho hbe)
    have HBE := Lib.hid (hbe.mono (Nat.le_of_lt hb.lt))
    have hxc := (HB.out.cell 4).trans rfl
    have hxf := HB.out.frozen 4
    clear hb ho hbe
    go_wp2
    go_ret
    exact ⟨F, false, { d with value := v }, fun _ => rfl, rfl, by rw [hv]; rfl, HB.out.set_ 4 _, own_set HO.out, HBE.out.setCell (p := ⟨b, 4, none⟩) (Nat.le_refl _) _⟩
set_option maxRecDepth 20000 in
set_option maxHeartbeats 4000000 in
theorem lget_o (d : St) (F : Value) (x : Bs) (b : Nat) {w : World} (hb : Blk w b 25 (stC d F)) (ho : BRow w (b + 1) F d.fails) :
    Calls Tryd.prog 32 #[.pointer (some ⟨b, 0, none⟩), .int .u8 111, bv x] w (GetIs .o F (setP d .o x) b w) := by
  have HNm := Lib.hid (fun w => (show Calls Tryd.prog 42 #[.pointer (some ⟨b, 0, none⟩), .int .u8 111] w fun e w' => e = .returned (.pointer none) ∧ w = w' from lnumber b .o w))
  unfold setP
  dsimp only
  obtain ⟨q, hq⟩ : ∃ q, (x == [111, 110]) = q := ⟨_, rfl⟩
  rw [hq]
  have HB := Lib.hid hb
  have HO := Lib.hid ho
  have hxc := (HB.out.cell 6).trans rfl
  have hxf := HB.out.frozen 6
  clear hb ho
  go_enter Tryd.func32, Tryd.ntmps32
  go_wp2_with fail
  refine (HNm.out _).mono ?_; rintro e _ ⟨rfl, rfl⟩
  go_wp2
  go_ret
  exact ⟨F, true, { d with on := q }, fun _ => rfl, rfl, rfl, HB.out.set_ 6 _, own_set HO.out, (Below.refl _ _).setCell (p := ⟨b, 6, none⟩) (Nat.le_refl _) _⟩
set_option maxRecDepth 20000 in
set_option maxHeartbeats 4000000 in
theorem lget_r (d : St) (F : Value) (x : Bs) (b : Nat) {w : World} (hb : Blk w b 25 (stC d F)) (ho : BRow w (b + 1) F d.fails) :
    Calls Tryd.prog 32 #[.pointer (some ⟨b, 0, none⟩), .int .u8 114, bv x] w (GetIs .r F (setP d .r x) b w) := by
  have HNm := Lib.hid (fun w => (show Calls Tryd.prog 42 #[.pointer (some ⟨b, 0, none⟩), .int .u8 114] w fun e w' => e = .returned (.pointer none) ∧ w = w' from lnumber b .r w))
  unfold setP
  dsimp only
  obtain ⟨q, hq⟩ : ∃ q, (x == [114, 119]) = q := ⟨_, rfl⟩
  rw [hq]
  have HB := Lib.hid hb
  have HO := Lib.hid ho
  have hxc := (HB.out.cell 6).trans rfl
  have hxf := HB.out.frozen 6
  clear hb ho
  go_enter Tryd.func32, Tryd.ntmps32
  go_wp2_with fail
  refine (HNm.out _).mono ?_; rintro e _ ⟨rfl, rfl⟩
  go_wp2
  go_ret
  exact ⟨F, true, { d with on := q }, fun _ => rfl, rfl, rfl, HB.out.set_ 6 _, own_set HO.out, (Below.refl _ _).setCell (p := ⟨b, 6, none⟩) (Nat.le_refl _) _⟩
end Go.Proofs.YtjofegjiakjjhaaDoor
/- Script, the program: get, at what a flush asks for, at Fails, and at every letter. -/
namespace Go.Proofs.YtjofegjiakjjhaaDoor
open Go.RowKit Go.Lib Mf

def WlR (b : Nat) (x : Bs) (w : World) (d : St) (F : Value) (v92 : Value) (wr : World) : Prop := ∃ i : Nat, v92 = .int .i64 i ∧ i ≤ 4 ∧ Blk wr b 25 (stC { d with what := whP x 0 i } F) ∧ BRow wr (b + 1) F d.fails ∧ Below b w wr
set_option maxRecDepth 20000 in
set_option maxHeartbeats 4000000 in
theorem lget_l (d : St) (hd : d.what = 0) (F : Value) (x : Bs) (b : Nat) {w : World} (hb : Blk w b 25 (stC d F)) (ho : BRow w (b + 1) F d.fails) :
    Calls Tryd.prog 32 #[.pointer (some ⟨b, 0, none⟩), .int .u8 108, bv x] w (GetIs .l F (setP d .l x) b w) := by
  have HNm := Lib.hid (fun w => (show Calls Tryd.prog 42 #[.pointer (some ⟨b, 0, none⟩), .int .u8 108] w fun e w' => e = .returned (.pointer none) ∧ w = w' from lnumber b .l w))
  unfold setP
  dsimp only
  rw [hd, ← whP_end]
  have HB := Lib.hid (show Blk w b 25 (stC { d with what := whP x 0 0 } F) from by
    have : ({ d with what := whP x 0 0 } : St) = d := by
      rw [show whP x 0 0 = 0 from rfl, ← hd]
    rw [this]; exact hb)
  have HO := Lib.hid ho
  clear hb ho hd
  go_enter Tryd.func32, Tryd.ntmps32
  go_wp2_with fail
  refine (HNm.out _).mono ?_; rintro e _ ⟨rfl, rfl⟩
  go_wp2_with fail
  refine (lwhats _).mono ?_; rintro e w1 ⟨rfl, hbe⟩
  replace HO := Lib.hid (own_below HO.out hbe)
  have HBE := Lib.hid (hbe.mono (Nat.le_of_lt HB.out.lt))
  replace HB := Lib.hid (HB.out.below hbe HB.out.lt)
  clear hbe HNm
  go_wp2_with fail
  go_loopw [92] (WlR b x w d F) (fun v _ => 4 - cntZ v)
  case atStart => exact ⟨0, rfl, by omega, HB.out, HO.out, HBE.out⟩
  case round =>
    clear HB HO HBE
    obtain ⟨i, rfl, hi4, hS, hO, hbe⟩ := hrel
    have HS := Lib.hid hS
    have HO := Lib.hid hO
    have HBE := Lib.hid hbe
    clear hS hO hbe
    rcases (show i = 0 ∨ i = 1 ∨ i = 2 ∨ i = 3 ∨ i = 4 by omega) with rfl | rfl | rfl | rfl | rfl
    · have hix : ∀ w : World, (Instr.index 88 (.agg #[bv [], bv [97, 108, 108], bv [97, 115, 105, 100], bv [118, 97]]) (.int .i64 0)).run Tryd.prog w = .ok (bv []) w := fun w => by kernel_rfl
      have hc0 := (HS.out.cell 8).trans rfl
      have hf0 := HS.out.frozen 8
      cases hq : ([] == x : Bool) with
      | true =>
        have hxw : [] = x := by simpa using hq
        have HP := Lib.hid (show whP x 0 1 = 0 from by rw [← hxw]; rfl)
        clear hxw
        go_wp2
        refine ⟨⟨1, by go_num, by omega, ?_, ?_, ?_⟩, by simp [cntZ]⟩
        · rw [HP.out]; exact HS.out.set_ 8 (.int .i64 0)
        · exact own_set HO.out
        · exact HBE.out.setCell (p := ⟨b, 8, none⟩) (Nat.le_refl _) _
      | false =>
        have hxw : [] ≠ x := by simpa using hq
        have HP := Lib.hid (show whP x 0 1 = whP x 0 0 from by unfold whP; first | rfl | simp [Ne.symm hxw])
        clear hxw
        go_wp2
        exact ⟨⟨1, by go_num, by omega, by rw [HP.out]; exact HS.out, HO.out, HBE.out⟩, by simp [cntZ]⟩
    · have hix : ∀ w : World, (Instr.index 88 (.agg #[bv [], bv [97, 108, 108], bv [97, 115, 105, 100], bv [118, 97]]) (.int .i64 1)).run Tryd.prog w = .ok (bv [97, 108, 108]) w := fun w => by kernel_rfl
      have hc0 := (HS.out.cell 8).trans rfl
      have hf0 := HS.out.frozen 8
      cases hq : ([97, 108, 108] == x : Bool) with
      | true =>
        have hxw : [97, 108, 108] = x := by simpa using hq
        have HP := Lib.hid (show whP x 0 2 = 1 from by rw [← hxw]; rfl)
        clear hxw
        go_wp2
        refine ⟨⟨2, by go_num, by omega, ?_, ?_, ?_⟩, by simp [cntZ]⟩
        · rw [HP.out]; exact HS.out.set_ 8 (.int .i64 1)
        · exact own_set HO.out
        · exact HBE.out.setCell (p := ⟨b, 8, none⟩) (Nat.le_refl _) _
      | false =>
        have hxw : [97, 108, 108] ≠ x := by simpa using hq
        have HP := Lib.hid (show whP x 0 2 = whP x 0 1 from by unfold whP; first | rfl | simp [Ne.symm hxw])
        clear hxw
        go_wp2
        exact ⟨⟨2, by go_num, by omega, by rw [HP.out]; exact HS.out, HO.out, HBE.out⟩, by simp [cntZ]⟩
    · have hix : ∀ w : World, (Instr.index 88 (.agg #[bv [], bv [97, 108, 108], bv [97, 115, 105, 100], bv [118, 97]]) (.int .i64 2)).run Tryd.prog w = .ok (bv [97, 115, 105, 100]) w := fun w => by kernel_rfl
      have hc0 := (HS.out.cell 8).trans rfl
      have hf0 := HS.out.frozen 8
      cases hq : ([97, 115, 105, 100] == x : Bool) with
      | true =>
        have hxw : [97, 115, 105, 100] = x := by simpa using hq
        have HP := Lib.hid (show whP x 0 3 = 2 from by rw [← hxw]; rfl)
        clear hxw
        go_wp2
        refine ⟨⟨3, by go_num, by omega, ?_, ?_, ?_⟩, by simp [cntZ]⟩
        · rw [HP.out]; exact HS.out.set_ 8 (.int .i64 2)
        · exact own_set HO.out
        · exact HBE.out.setCell (p := ⟨b, 8, none⟩) (Nat.le_refl _) _
      | false =>
        have hxw : [97, 115, 105, 100] ≠ x := by simpa using hq
        have HP := Lib.hid (show whP x 0 3 = whP x 0 2 from by unfold whP; first | rfl | simp [Ne.symm hxw])
        clear hxw
        go_wp2
        exact ⟨⟨3, by go_num, by omega, by rw [HP.out]; exact HS.out, HO.out, HBE.out⟩, by simp [cntZ]⟩
    · have hix : ∀ w : World, (Instr.index 88 (.agg #[bv [], bv [97, 108, 108], bv [97, 115, 105, 100], bv [118, 97]]) (.int .i64 3)).run Tryd.prog w = .ok (bv [118, 97]) w := fun w => by kernel_rfl
      have hc0 := (HS.out.cell 8).trans rfl
      have hf0 := HS.out.frozen 8
      cases hq : ([118, 97] == x : Bool) with
      | true =>
        have hxw : [118, 97] = x := by simpa using hq
        have HP := Lib.hid (show whP x 0 4 = 3 from by rw [← hxw]; rfl)
        clear hxw
        go_wp2
        refine ⟨⟨4, by go_num, by omega, ?_, ?_, ?_⟩, by simp [cntZ]⟩
        · rw [HP.out]; exact HS.out.set_ 8 (.int .i64 3)
        · exact own_set HO.out
        · exact HBE.out.setCell (p := ⟨b, 8, none⟩) (Nat.le_refl _) _
      | false =>
        have hxw : [118, 97] ≠ x := by simpa using hq
        have HP := Lib.hid (show whP x 0 4 = whP x 0 3 from by unfold whP; first | rfl | simp [Ne.symm hxw])
        clear hxw
        go_wp2
        exact ⟨⟨4, by go_num, by omega, by rw [HP.out]; exact HS.out, HO.out, HBE.out⟩, by simp [cntZ]⟩
    · go_wp2
      go_ret
      exact ⟨F, true, _, fun _ => rfl, rfl, rfl, HS.out, HO.out, HBE.out⟩
def FsP (b : Nat) (x : Bs) (w : World) (cs : Value → Array Value) (v14 : Value) (wr : World) : Prop := ∃ (i : Nat) (F : Value), v14 = .int .i64 i ∧ i ≤ x.length ∧ (x = [45] → i = 0) ∧ Blk wr b 25 (cs F) ∧ BRow wr (b + 1) F ((x.take i).map fun b => b == 120) ∧ Below b w wr
set_option maxRecDepth 20000 in
set_option maxHeartbeats 4000000 in
theorem lget_f (d : St) (x : Bs) (hx : x.length ≤ 1000000) (hd : d.fails = []) (b : Nat) {w : World} (hb : Blk w b 25 (stC d (.slice none 0 0))) :
    Calls Tryd.prog 32 #[.pointer (some ⟨b, 0, none⟩), .int .u8 102, bv x] w (GetIs .f (.slice none 0 0) (setP d .f x) b w) := by
  have HNm := Lib.hid (fun w => (show Calls Tryd.prog 42 #[.pointer (some ⟨b, 0, none⟩), .int .u8 102] w fun e w' => e = .returned (.pointer none) ∧ w = w' from lnumber b .f w))
  obtain ⟨i0, hi0, hz0', hz1, hz2⟩ := info_parts infoB
  unfold setP
  dsimp only
  rw [hd, List.nil_append]
  clear hd
  obtain ⟨n, hn⟩ : ∃ n, x.length = n := ⟨_, rfl⟩
  obtain ⟨cs, hcs⟩ : ∃ cs : Value → Array Value, cs = fun F => stC d F := ⟨_, rfl⟩
  have HCS := Lib.hid (show ∀ F, cs F = stC d F from fun F => by rw [hcs])
  have HC11 := Lib.hid (show ∀ F, (cs F)[11]? = some F from fun F => by rw [hcs]; rfl)
  have HCst := Lib.hid (show ∀ F G, (cs F).setIfInBounds 11 G = cs G from fun F G => by rw [hcs]; rfl)
  have HB := Lib.hid (show Blk w b 25 (cs (.slice none 0 0)) from by rw [hcs]; exact hb)
  clear hb hcs
  go_enter Tryd.func32, Tryd.ntmps32
  go_wp2_with fail
  refine (HNm.out _).mono ?_; rintro e _ ⟨rfl, rfl⟩
  clear HNm
  go_wp2_with fail
  go_loopw [14] (FsP b x w cs) (fun v _ => n - cntZ v)
  case atStart => exact ⟨0, .slice none 0 0, rfl, Nat.zero_le _, fun _ => rfl, HB.out, World.ownsRow_nil _ _ _ _, Below.refl _ _⟩
  case round =>
    clear HB
    obtain ⟨i, F, rfl, hi, hx45, hS, hW, hbe⟩ := hrel
    have HS := Lib.hid hS
    have HW := Lib.hid hW
    have HBE := Lib.hid hbe
    clear hS hW hbe
    obtain ⟨FA, Fc, rfl⟩ := HW.out.form
    have hfl : ((x.take i).map fun b => b == 120).length = i := by rw [List.length_map, List.length_take]; omega
    unfold BRow at HW
    rw [hfl] at HW HS
    obtain ⟨b45, hb45⟩ : ∃ b, (x == [45]) = b := ⟨_, rfl⟩
    by_cases hin : i < n
    · have g1 : decide ((i : Int) < (n : Int)) = true := by simp; exact hin
      have g1' : decide (i < n) = true := by simp; exact hin
      cases b45 with
      | true =>
        have hxe : x = [45] := by simpa using hb45
        have hi00 := hx45 hxe
        have HFR := Lib.hid (show failR x = ((x.take i).map fun b => b == 120) from by rw [hi00]; unfold failR; rw [if_pos hxe]; rfl)
        have q45 : (x != [45]) = false := by rw [hxe]; rfl
        clear hxe hx45 hi00
        go_wp2
        go_ret
        refine ⟨.slice FA i Fc, true, _, fun h => absurd rfl h, rfl, rfl, by show Blk _ _ _ (stC d _); rw [← HCS.out]; exact HS.out, ?_, HBE.out⟩
        show BRow _ _ _ (failR x)
        rw [HFR.out]
        unfold BRow
        rw [hfl]
        exact HW.out
      | false =>
        have q45 : (x != [45]) = true := by simpa using hb45
        have hil : i < x.length := by omega
        have hsz : i < (⟨x.toArray⟩ : ByteArray).size := hil
        obtain ⟨y, hy⟩ : ∃ y : Nat, ((⟨x.toArray⟩ : ByteArray)[i]'hsz).toNat = y := ⟨_, rfl⟩
        obtain ⟨bq, hbq⟩ : ∃ b, ((y : Int) == 120) = b := ⟨_, rfl⟩
        have HBQ := Lib.hid (show (x.take (i + 1)).map (fun b => b == 120) = (x.take i).map (fun b => b == 120) ++ [bq] from by
          rw [List.take_succ_eq_append_getElem hil, List.map_append, List.map_singleton]
          congr 2
          rw [← hbq, ← hy]
          have : ∀ n : Fin 256, (UInt8.ofNat n.1 == 120) = (((UInt8.ofNat n.1).toNat : Int) == 120) := by decide +kernel
          have h9 := this ⟨(x[i]).toNat, UInt8.toNat_lt _⟩
          have e : UInt8.ofNat (x[i]).toNat = x[i] := by simp
          rw [e] at h9
          exact h9)
        have HX45 := Lib.hid (show x ≠ [45] from by simpa using hb45)
        clear hx45 hfl
        go_upto_region 10 with fail
        refine beginZ (z := 13) (S := (fun w' => w'.cell? ⟨b, 11, none⟩ = some (.slice FA i Fc) ∧ w'.frozen? ⟨b, 11, none⟩ = false)) (by kernel_rfl) ?_ (fun hHeld => ?_)
        · exact ⟨(HS.out.cell 11).trans (HC11.out _), HS.out.frozen 11⟩
        replace HS := Lib.hid (show Blk wr.drew b 25 _ from HS.out)
        replace HW := Lib.hid (own_below HW.out (Below.refl _ _).drew)
        replace HBE := Lib.hid (HBE.out.drew)
        have HRL := Lib.hid (show b + 1 ≤ wr.drew.heap.size from HS.out.lt)
        generalize wr.drew = w0 at *
        ((refine takeYZ 0 (by kernel_rfl) (v := ?_) rfl (by kernel_rfl) (by kernel_rfl) (by kernel_rfl) (fun _ _ _ h => h) (by rfl) (by assumption) ?_ ?_; rotate_left; · (intro w hSw; (try dsimp only at hSw); go_simp; (first | done | with_reducible rfl))))
        (try simp only [Act.put, List.setIfInBounds_toArray, List.set_cons_zero, List.set_cons_succ])
        ((refine takeYZ 1 (by kernel_rfl) (v := ?_) rfl (by kernel_rfl) (by kernel_rfl) (by kernel_rfl) (fun _ _ _ h => h) (by rfl) (by assumption) ?_ ?_; rotate_left; · (intro w hSw; (try dsimp only at hSw); go_simp; (first | done | with_reducible rfl))))
        (try simp only [Act.put, List.setIfInBounds_toArray, List.set_cons_zero, List.set_cons_succ])
        ((refine takeYZ 2 (by kernel_rfl) (v := ?_) rfl (by kernel_rfl) (by kernel_rfl) (by kernel_rfl) (fun _ _ _ h => h) (by rfl) (by assumption) ?_ ?_; rotate_left; · (intro w hSw; (try dsimp only at hSw); go_simp; (first | done | with_reducible rfl))))
        (try simp only [Act.put, List.setIfInBounds_toArray, List.set_cons_zero, List.set_cons_succ])
        ((refine takeYZ 3 (by kernel_rfl) (v := ?_) rfl (by kernel_rfl) (by kernel_rfl) (by kernel_rfl) (fun _ _ _ h => h) (by rfl) (by assumption) ?_ ?_; rotate_left; · (intro w hSw; (try dsimp only at hSw); go_simp; (first | done | with_reducible rfl))))
        (try simp only [Act.put, List.setIfInBounds_toArray, List.set_cons_zero, List.set_cons_succ])
        ((refine takeYZ 4 (by kernel_rfl) (v := ?_) rfl (by kernel_rfl) (by kernel_rfl) (by kernel_rfl) (fun _ _ _ h => h) (by rfl) (by assumption) ?_ ?_; rotate_left; · (intro w hSw; (try dsimp only at hSw); go_simp; (first | done | with_reducible rfl))))
        (try simp only [Act.put, List.setIfInBounds_toArray, List.set_cons_zero, List.set_cons_succ])
        ((refine takeYZ 5 (by kernel_rfl) (v := ?_) rfl (by kernel_rfl) (by kernel_rfl) (by kernel_rfl) (fun _ _ _ h => h) (by rfl) (by assumption) ?_ ?_; rotate_left; · (intro w hSw; (try dsimp only at hSw); go_simp; (first | done | with_reducible rfl))))
        (try simp only [Act.put, List.setIfInBounds_toArray, List.set_cons_zero, List.set_cons_succ])
        ((refine takeYZ 6 (by kernel_rfl) (v := ?_) rfl (by kernel_rfl) (by kernel_rfl) (by kernel_rfl) (fun _ _ _ h => h) (by rfl) (by assumption) ?_ ?_; rotate_left; · (intro w hSw; (try dsimp only at hSw); go_simp; (first | done | with_reducible rfl))))
        (try simp only [Act.put, List.setIfInBounds_toArray, List.set_cons_zero, List.set_cons_succ])
        ((refine takeYZ 7 (by kernel_rfl) (v := ?_) rfl (by kernel_rfl) (by kernel_rfl) (by kernel_rfl) (fun _ _ _ h => h) (by rfl) (by assumption) ?_ ?_; rotate_left; · (intro w hSw; (try dsimp only at hSw); go_simp; (first | done | with_reducible rfl))))
        (try simp only [Act.put, List.setIfInBounds_toArray, List.set_cons_zero, List.set_cons_succ])
        ((refine takeYZ 8 (by kernel_rfl) (v := ?_) rfl (by kernel_rfl) (by kernel_rfl) (by kernel_rfl) (fun _ _ _ h => h) (by rfl) (by assumption) ?_ ?_; rotate_left; · (intro w hSw; (try dsimp only at hSw); go_simp; (first | done | with_reducible rfl))))
        (try simp only [Act.put, List.setIfInBounds_toArray, List.set_cons_zero, List.set_cons_succ])
        refine stepZ 9 rfl (by kernel_rfl) (by rfl) (fun K hK => ?_)
        go_simp
        (refine hK.out _ _ ?_ (fun hHeld => ?_))
        · exact ⟨((HS.out.alloc _).cell 11).trans (HC11.out _), (HS.out.alloc _).frozen 11⟩
        clear hK K
        have HN1 := Lib.hid (reads_one1 w0 (.bool bq) 4)
        replace HS := Lib.hid (HS.out.alloc (.cells #[.bool bq] 4))
        replace HW := Lib.hid (HW.out.alloc (.cells #[.bool bq] 4))
        have HBS := Lib.hid (show b ≤ w0.heap.size from Nat.le_of_succ_le HRL.out)
        replace HBE := Lib.hid (HBE.out.alloc HBS.out (.cells #[.bool bq] 4))
        have HRL2 := Lib.hid (show b + 1 ≤ (w0.alloc (.cells #[.bool bq] 4)).heap.size from by have := HRL.out; simp; omega)
        generalize hwn : w0.alloc (.cells #[.bool bq] 4) = wa at *
        clear hwn
        refine stepZ 10 rfl (by kernel_rfl) (by rfl) (fun K hK => ?_)
        (refine wp_append_any _ (.tmp 45) (.tmp 50) _ rfl (b + 1) 4 i0 _ 1 1 Tryd.underlying23 hi0 hz0' hz1 hz2 rfl (by omega) _ i _ rfl HW.out _ (some ⟨w0.heap.size, 0, none⟩) 1 _ [.bool bq] rfl HN1.out (by simp; rfl) (by unfold maxLen; omega) (by omega) HRL2.out ?_; intro v2 w3 hown2 hg2 hat2)
        have hne : ∀ g, g ≤ b → some g ≠ (Value.slice FA i Fc).ownBlock := fun g hg e => by have := (HW.out.lt g e.symm).1; omega
        replace HS := Lib.hid (HS.out.grown hg2 (hne _ (Nat.le_refl _)))
        replace HBE := Lib.hid (HBE.out.grown hg2 (Nat.le_of_succ_le HRL2.out) (fun g hg => by have := (HW.out.lt g hg).1; omega))
        clear hne
        replace HW := Lib.hid hown2
        clear hg2 hat2 hown2
        (refine hK.out _ _ ?_ (fun hHeld => ?_))
        · exact ⟨(HS.out.cell 11).trans (HC11.out _), HS.out.frozen 11⟩
        clear hK K
        refine stepZ 11 rfl (by kernel_rfl) (by rfl) (fun K hK => ?_)
        go_simp
        refine hK.out _ _ hHeld (fun hHeld => ?_)
        clear hK K
        ((refine takeYZ 12 (by kernel_rfl) (v := ?_) rfl (by kernel_rfl) (by kernel_rfl) (by kernel_rfl) (fun _ _ _ h => h) (by rfl) (by assumption) ?_ ?_; rotate_left; · (intro w hSw; (try dsimp only at hSw); go_simp; (first | done | with_reducible rfl))))
        (try simp only [Act.put, List.setIfInBounds_toArray, List.set_cons_zero, List.set_cons_succ])
        refine endZ rfl (by kernel_rfl) (by kernel_rfl) (by rfl) (fun K hK => ?_)
        obtain ⟨hq1, hq2⟩ := hHeld
        obtain ⟨A2, C2, rfl⟩ : ∃ A c, v2 = .slice A (i + 1) c := by
          rcases own_cases HW.out with ⟨_, h0⟩ | ⟨g, cc2, h1, _⟩
          · omega
          · exact ⟨_, _, h1⟩
        go_simp
        refine hK.out _ _ ?_
        clear hK K hq1 hq2
        go_wp2
        refine ⟨⟨i + 1, .slice A2 (i + 1) C2, by go_num, by omega, fun e => absurd e HX45.out, by rw [← HCst.out (.slice FA i Fc)]; exact HS.out.set_ 11 _, ?_, HBE.out.setCell (p := ⟨b, 11, none⟩) (Nat.le_refl _) _⟩, cntZ_lt hin⟩
        have hw9 := own_only HW.out (Only.setCell (S := fun g => g = b) (Only.refl _ w3) (p := ⟨b, 11, none⟩) (.inl rfl) (.slice A2 (i + 1) C2)) (fun k hk => by omega)
        unfold BRow
        rw [HBQ.out, List.map_append]
        rw [show ((x.take i).map (fun b => b == 120) ++ [bq]).length = i + 1 from by simp; omega]
        exact hw9
    · obtain rfl : i = n := by omega
      have g1 : decide ((i : Int) < (i : Int)) = false := by simp
      have HFR := Lib.hid (show failR x = ((x.take i).map fun b => b == 120) from by
        rw [List.take_of_length_le (by omega)]
        unfold failR
        rw [if_neg]
        intro e
        have := hx45 e
        rw [e] at hn
        simp at hn
        omega)
      clear hx45
      go_wp2
      go_ret
      refine ⟨.slice FA i Fc, true, _, fun h => absurd rfl h, rfl, rfl, by show Blk _ _ _ (stC d _); rw [← HCS.out]; exact HS.out, ?_, HBE.out⟩
      show BRow _ _ _ (failR x)
      rw [HFR.out]
      unfold BRow
      rw [hfl]
      exact HW.out
/-- Any letter. -/
theorem lget (d : St) (c : Fd) (F : Value) (x : Bs) (hx : x.length ≤ 1000000) (b : Nat) {w : World} (he : Env w) (hb : Blk w b 25 (stC d F)) (ho : BRow w (b + 1) F d.fails) (hf : c = .f → F = .slice none 0 0 ∧ d.fails = []) (hl : c = .l → d.what = 0) :
    Calls Tryd.prog 32 #[.pointer (some ⟨b, 0, none⟩), .int .u8 ((pcd c).toNat : Int), bv x] w (GetIs c F (setP d c x) b w) := by
  cases c
  case g => exact lget_num d .g rfl (by omega) F x hx (fun v => { d with guest := v }) (fun v => rfl) (fun v => rfl) rfl b he hb ho
  case p => exact lget_num d .p rfl (by omega) F x hx (fun v => { d with page := v }) (fun v => rfl) (fun v => rfl) rfl b he hb ho
  case s => exact lget_num d .s rfl (by omega) F x hx (fun v => { d with size := v }) (fun v => rfl) (fun v => rfl) rfl b he hb ho
  case a => exact lget_num d .a rfl (by omega) F x hx (fun v => { d with asid := v }) (fun v => rfl) (fun v => rfl) rfl b he hb ho
  case w => exact lget_num d .w rfl (by omega) F x hx (fun v => { d with way := v }) (fun v => rfl) (fun v => rfl) rfl b he hb ho
  case t => exact lget_num d .t rfl (by omega) F x hx (fun v => { d with set := v }) (fun v => rfl) (fun v => rfl) rfl b he hb ho
  case x => exact lget_x d F x hx b he hb ho
  case v => exact lget_v d F x hx b he hb ho
  case o => exact lget_o d F x b hb ho
  case r => exact lget_r d F x b hb ho
  case l => exact lget_l d (hl rfl) F x b hb ho
  case f =>
    obtain ⟨rfl, h0⟩ := hf rfl
    exact lget_f d x hx h0 b hb
end Go.Proofs.YtjofegjiakjjhaaDoor
