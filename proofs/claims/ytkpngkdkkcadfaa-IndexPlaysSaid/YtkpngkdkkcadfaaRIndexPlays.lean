/- The statement IndexPlays: whatever the arguments, the call returns true and the arguments read as before. No conditions. -/
import Derived.Test.YtkpngkdkkcadfaaRows
import Derived.Test.YtkpngkdkkcadfaaI20c
import Derived.Test.YtkpngkdkkcadfaaRow
import Derived.Test.YtkpngkdkkcadfaaRows2
import Derived.Test.YtkpngkdkkcadfaaShape
import Derived.WalkKit
import Derived.ProofKit
import Derived.OpenShut
namespace Go.Proofs.Ytkpngkdkkcadfaa.indexPlays
open Go.ChangeShapes Go.WideShapes Go.ChangeAt Go.RowKit
set_option linter.unusedVariables false

theorem own : ownKnob Try.prog.godebug = none := by kernel_rfl
theorem laidOut : laidOutB Try.prog = true := by kernel_rfl

set_option maxRecDepth 100000 in
theorem lifted (os : Os) (started : os.Started) (H : Type) (enc : TypeId × Value → H) :
    ReturnsInHanded {} Try.checked os 4 .any (Rows.indexPlaysSpec.pre6 enc Try.prog Try.f4 Rows.indexPlaysRow.domain false) (Rows.indexPlaysSpec.post enc Try.prog Try.f4 false true false false) := by
  refine returnsInHanded_of_change (C := Try.checked) own started (by kernel_rfl) Try.func4
    (ChangeSpec.witness6 (enc := enc) (C := Try.checked) false ⟨#[], #[.slice none 0 0], []⟩ 8 (by kernel_rfl) (by kernel_rfl) (by kernel_rfl) (by kernel_rfl)) ?_
  intro W base args ds gs before hval0 hW hcnd _
  have hval : ∀ (j : Nat) t v, Try.f4.params[j]? = some t → args[j]? = some v → Value.okWide Try.prog W .any base t v := hval0
  have hW' := hW
  obtain ⟨p, q, hA0, hV, rfl, hfz, hnd⟩ := hW
  have hA : DataW.TrodAll enc Try.prog W 0 (fun _ => true) true Try.f4.params.toList args.toList ds p := hA0
  have hAk := hA0
  rw [Try.params4] at hA hval
  obtain ⟨v0, vs0, d0, ds0, p0, q0, hargs, rfl, rfl, h0, r0⟩ := trodAll_cons hA
  obtain ⟨rfl, rfl, rfl⟩ := trodAll_nil r0
  obtain rfl : args = #[v0] := by cases args; simp_all
  obtain ⟨rfl, rfl⟩ := trodVars_none hV
  obtain ⟨A0, n0, c0, xs0, rfl, hr0, hx0, hnc0, hcm0⟩ := open_row_cells (ks := [CK.i .i64, CK.i .i64, CK.i .i64, CK.i .u64]) Try.underlying37 (by kernel_rfl) (by decide) (by
    rintro (_|_|_|_|_) c h
    · cases h; exact At.field Try.underlying45 (i := 0) rfl (At.int Try.underlying3) (of_decide_eq_true (by kernel_rfl)) rfl
    · cases h; exact At.field Try.underlying45 (i := 1) rfl (At.int Try.underlying3) (of_decide_eq_true (by kernel_rfl)) rfl
    · cases h; exact At.field Try.underlying45 (i := 2) rfl (At.int Try.underlying3) (of_decide_eq_true (by kernel_rfl)) rfl
    · cases h; exact At.field Try.underlying45 (i := 3) rfl (At.int Try.underlying22) (of_decide_eq_true (by kernel_rfl)) rfl
    · cases h) (hval 0 37 v0 rfl rfl) h0
  refine (indexPlays_walk A0 n0 c0 xs0 W hr0 hx0).mono fun e W' ⟨he, hb⟩ => ?_
  subst he
  exact ⟨_, rfl, post_of_below (pv := []) hW' (fun _ _ _ => (trodAll_cons_mk (shut_bool Try.underlying4 _) trodAll_mk0)) (fun sp hsp => trodAll_stays laidOut hb sp _ _ _ _ (by decide +kernel) hAk (fun x hx => hW'.lt x (List.mem_append_left _ hx)) (fun x hx => hsp x (List.mem_append_left _ hx))) (fun _ _ => rfl) rfl hb (ok_one (by kernel_rfl) rfl (okWide_bool_mk Try.underlying4 _))⟩

theorem proved : Rows.IndexPlaysSaid :=
  OpenClaim.holds_of_wide 4 Try.f4 rfl rfl rfl rfl rfl rfl rfl ⟨rfl, rfl, rfl, rfl, rfl⟩ rfl rfl rfl rfl rfl (by kernel_rfl) Try.func4 (by kernel_rfl)
    (of_decide_eq_true (by kernel_rfl)) (by unfold Func.isWrapper; first | (rw [if_pos (by decide +kernel)]; kernel_rfl) | (rw [if_neg (by decide +kernel)]; exact ⟨rfl, rfl⟩))
    (fun os started H enc _ => lifted os started H enc)
#print axioms proved
end Go.Proofs.Ytkpngkdkkcadfaa.indexPlays
