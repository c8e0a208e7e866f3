/- EphemSum: all that is owned, together, is as many as pairs whose value is not 0. No conditions. -/
import Derived.Test.YtcfbhojpemjjpaaLf
import Derived.Test.YtcfbhojpemjjpaaRw
set_option linter.unusedVariables false
set_option linter.unusedSimpArgs false
namespace Go.Proofs.Ytcfbhojpemjjpaa
open Go Go.RowKit Go.ChangeShapes Go.WideShapes

set_option maxRecDepth 100000 in
theorem lifted_EphemSum (os : Os) (started : os.Started) (H : Type) (enc : TypeId × Value → H) :
    ReturnsInHanded {} Try.checked os 12 .any (Ytcfbhojpemjjpaa.Rows.ephemSumSpec.pre6 enc Try.prog Try.f12 Ytcfbhojpemjjpaa.Rows.ephemSumRow.domain false) (Ytcfbhojpemjjpaa.Rows.ephemSumSpec.post enc Try.prog Try.f12 false true false false) := by
  refine returnsInHanded_of_change_sized (C := Try.checked) own started (by kernel_rfl) Try.func12
    (ChangeSpec.witness6 (enc := enc) (C := Try.checked) false ⟨#[], #[.slice none 0 0], []⟩ 8 (by kernel_rfl) (by kernel_rfl) (by kernel_rfl) (by kernel_rfl)) ?_
  intro W base args ds gs before hval0 hW hcnd hsz0 _
  have hsz : (DataW.weightsEach Try.prog (Try.f12.params.toList ++ Ytcfbhojpemjjpaa.Rows.ephemSumSpec.plain.varTypes Try.prog) (ds ++ gs)).all (· ≤ reachBytes) = true := hsz0
  have hval : ∀ (j : Nat) t v, Try.f12.params[j]? = some t → args[j]? = some v → Value.okWide Try.prog W .any base t v := hval0
  have hW' := hW
  obtain ⟨p, q, hA0, hV, rfl, hfz, hnd⟩ := hW
  have hA : DataW.TrodAll enc Try.prog W 0 (fun _ => true) true Try.f12.params.toList args.toList ds p := hA0
  obtain ⟨rfl, rfl⟩ := trodVars_none hV
  rw [Try.params12] at hA hval hsz
  have hsz' : (DataW.weightsEach Try.prog [22] ds).all (· ≤ reachBytes) = true := by rw [List.append_nil] at hsz; exact hsz
  obtain ⟨avs, h2, hty⟩ := args_read (d := 9) [22] args.toList ds p hA (fun j t v ht hv => hval j t v (by simpa using ht) (by simpa using hv)) (by kernel_rfl) hsz'
  obtain ⟨a0, l0, rfl, t0, rfl⟩ := hty
  obtain ⟨b0, rfl, w0, z0⟩ := ta_tab t0
  have hcall := law_calls (EphemSum b0) h2
  rw [Array.toArray_toList] at hcall
  refine hcall.mono fun e W' ⟨he, bel⟩ => ?_
  subst he
  have hback := args_back (enc := enc) laidOut bel [22] args.toList ds p hA (by kernel_rfl)
  obtain ⟨v0, vs0, d0, ds0, p0, q0, hargs, rfl, rfl, k0, r0⟩ := trodAll_cons hA
  obtain ⟨rfl, rfl, rfl⟩ := trodAll_nil r0
  exact ⟨_, rfl, _, _, _, [], _, [], hW', trodAll_mk1 (shut_bool Try.underlying4 _), hback, rfl, bel.frame _, fun h => by cases h⟩
theorem over_EphemSum : Ytcfbhojpemjjpaa.Rows.ephemSumRow.holds Ytcfbhojpemjjpaa.Try.pinned (OpenSpec.ofChange Ytcfbhojpemjjpaa.Rows.ephemSumSpec) :=
  OpenClaim.holds_of_wide 12 Try.f12 rfl rfl rfl rfl rfl rfl rfl ⟨rfl, rfl, rfl, rfl, rfl⟩ rfl rfl rfl rfl rfl (by kernel_rfl) Try.func12 (by kernel_rfl)
    (of_decide_eq_true (by kernel_rfl)) (by unfold Func.isWrapper; first | (rw [if_pos (by decide +kernel)]; kernel_rfl) | (rw [if_neg (by decide +kernel)]; exact ⟨rfl, rfl⟩))
    (fun os started H enc _ => lifted_EphemSum os started H enc)
theorem ephemSum_holds : Ytcfbhojpemjjpaa.Rows.EphemSumSaid := over_EphemSum
end Go.Proofs.Ytcfbhojpemjjpaa
