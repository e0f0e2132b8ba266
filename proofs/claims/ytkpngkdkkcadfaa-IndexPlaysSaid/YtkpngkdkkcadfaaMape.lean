/- A map's entry laid, and stored: the two steps of an assignment to several map elements. -/
import Derived.Test.YtkpngkdkkcadfaaMapk
namespace Go.Proofs.Ytkpngkdkkcadfaa.Mk
open Go.RowKit
open Go.ChangeMaps (setBlock modify_eq_set)
open Go.MapKept (Stamped stamped_push stamped_modify stamped_erase stamped_empty stamped_iff)
variable {κ : Type} {P : Program} {K : TypeId} {c : Kq P K κ}

/-- Block b is a map that holds what f says but for k, whose entry bears the stamp s. -/
def KEnt (P : Program) (K : TypeId) (c : Kq P K κ) (w : World) (b n : Nat) (f : κ → Option Value) (k : κ) (s : Nat) : Prop := ∃ (es : Array MapEntry) (clock j : Nat) (e0 : MapEntry), w.heap[b]? = some (.map es clock) ∧ Stamped es clock ∧ es.size ≤ n ∧ es.toList[j]? = some e0 ∧ e0.key = c.val k ∧ e0.born = s ∧ ∃ g, Ent c es.toList g ∧ ∀ i, i ≠ k → g i = f i

theorem KMap.entry [DecidableEq κ] {w : World} {b n : Nat} {f : κ → Option Value} (h : KMap P K c w b n f) {t e : TypeId} (ht : P.underlying t = some (.map K e)) {z : Value} (hz : (zeroValue e).run P w = .ok z w) (k : κ) :
    ∃ w' v s, (Instr.mapEntry t (.map (some b)) (c.val k)).run P w = .ok (.tuple #[v, .int .i64 ((s : Nat) : Int)]) w' ∧ KEnt P K c w' b (n + 1) f k s ∧ w.mapTurned w' b := by
  obtain ⟨es, clock, hb, hs, hn, hE⟩ := h
  have hnk := ((stamped_iff es clock).1 hs).2.2
  rcases c.find w k es.toList hE.1 with ⟨h1, h2⟩ | ⟨j, e0, h1, h2, h3⟩
  · have hpush := hE.push h2 z clock
    refine ⟨setBlock w b (.map (es.push ⟨c.val k, z, clock⟩) (clock + 1)), z, clock, ?_, ⟨_, _, es.size, ⟨c.val k, z, clock⟩, (MapKept.heap_set hb).1, stamped_push hs h2, by simp; omega, ?_, rfl, rfl, _, by rw [Array.toList_push]; exact hpush, fun i hi => if_neg hi⟩, ⟨es, clock, _, _, hb, rfl⟩⟩
    · simp [Instr.mapEntry, run_underlying ht, MapKept.run_getObj_map hb, c.check w false k, h1, hz, MapKept.run_setObj_map _ hb, Result.andThen, setBlock, goInt]
    · rw [Array.toList_push, List.getElem?_append_right (by simp)]; simp
  · have hj : es[j]? = some e0 := by simpa using h2
    have hlist : (es.modify j (fun e' => { e' with key := c.val k })).toList = es.toList.set j { e0 with key := c.val k } := by rw [Array.toList_modify, modify_eq_set _ _ _ _ h2]
    have hsame : ({ e0 with key := c.val k } : MapEntry) = e0 := by rw [← h3]
    have hset : es.toList.set j { e0 with key := c.val k } = es.toList := by
      rw [hsame]
      apply List.ext_getElem?
      intro i
      rw [List.getElem?_set]
      split
      · rename_i hi; subst hi; rw [h2]; split
        · rfl
        · rename_i hl; exact absurd (List.getElem?_eq_some_iff.1 h2).1 hl
      · rfl
    refine ⟨setBlock w b (.map (es.modify j (fun e' => { e' with key := c.val k })) clock), e0.val, e0.born, ?_, ⟨_, _, j, e0, (MapKept.heap_set hb).1, stamped_modify hs j (fun e' => { e' with key := c.val k }) (fun _ _ => rfl) (fun e' _ he' => by rw [hj] at he'; cases he'; exact h3.symm), by simp; omega, by rw [hlist, hset]; exact h2, h3, rfl, f, by rw [hlist, hset]; exact hE, fun _ _ => rfl⟩, ⟨es, clock, _, _, hb, rfl⟩⟩
    simp [Instr.mapEntry, run_underlying ht, MapKept.run_getObj_map hb, c.check w false k, h1, hj, h3, c.stays w k, MapKept.run_setObj_map _ hb, Result.andThen, setBlock, goInt]
theorem KEnt.same {w w' : World} {b n s : Nat} {f : κ → Option Value} {k : κ} (h : KEnt P K c w b n f k s) (hb : w'.heap[b]? = w.heap[b]?) : KEnt P K c w' b n f k s := by
  obtain ⟨es, clock, j, e0, h1, r⟩ := h
  exact ⟨es, clock, j, e0, hb.trans h1, r⟩
theorem KEnt.store [DecidableEq κ] {w : World} {b n s : Nat} {f : κ → Option Value} {k : κ} (h : KEnt P K c w b n f k s) (t : TypeId) (x : Value) :
    ∃ w', (Instr.entryStore t (.map (some b)) (.int .i64 (s : Int)) x).run P w = .ok () w' ∧ KMap P K c w' b n (fun j => if j = k then some x else f j) ∧ w.mapTurned w' b := by
  obtain ⟨es, clock, j, e0, hb, hs, hn, hj, hk, rfl, g, hE, hg⟩ := h
  have hst := (stamped_iff es clock).1 hs
  have hj2 : es[j]? = some e0 := by simpa using hj
  have hidx : es.findIdx? (fun e => (e.born : Int) == (e0.born : Int)) = some j := by
    rw [Array.findIdx?_eq_some_iff_getElem]
    obtain ⟨hjl, he⟩ := Array.getElem?_eq_some_iff.1 hj2
    refine ⟨hjl, by rw [he]; simp, fun i hi => ?_⟩
    have hil : i < es.size := by omega
    intro hb2
    have hb3 : (es[i]).born = e0.born := by
      have := of_decide_eq_true (p := ((es[i]).born : Int) = (e0.born : Int)) (by simpa using hb2)
      omega
    have h4 := hst.2.1
    unfold List.Nodup at h4
    rw [List.pairwise_map] at h4
    have h5 := List.pairwise_iff_getElem.1 h4 i j (by simpa using hil) (by simpa using hjl) hi
    simp only [Array.getElem_toList] at h5
    exact h5 (by rw [hb3, he])
  have hlist : (es.modify j (fun e' => { e' with val := x })).toList = es.toList.set j { e0 with val := x } := by rw [Array.toList_modify, modify_eq_set _ _ _ _ hj]
  have hsame : ({ e0 with val := x } : MapEntry) = { e0 with key := c.val k, val := x } := by rw [← hk]
  have hfun : (fun i => if i = k then some x else g i) = fun i => if i = k then some x else f i := by
    funext i
    by_cases e : i = k
    · rw [if_pos e, if_pos e]
    · rw [if_neg e, if_neg e, hg i e]
  refine ⟨setBlock w b (.map (es.modify j (fun e' => { e' with val := x })) clock), ?_, ⟨_, _, (MapKept.heap_set hb).1, stamped_modify hs j (fun e' => { e' with val := x }) (fun _ _ => rfl) (fun _ _ _ => rfl), by simp; omega, ?_⟩, ⟨es, clock, _, _, hb, rfl⟩⟩
  · simp [Instr.entryStore, asInt, asIntOf, MapKept.run_getObj_map hb, hidx, MapKept.run_setObj_map _ hb, Result.andThen, setBlock]
  · rw [hlist, hsame, ← hfun]
    exact hE.set hst.2.2 hj hk x
end Go.Proofs.Ytkpngkdkkcadfaa.Mk
