/- EphemGoes: without some keys none of them is there, all others are, with their values; as many values come as pairs go. No conditions. -/
import Derived.Test.YtcfbhojpemjjpaaLf
import Derived.Test.YtcfbhojpemjjpaaRw
set_option linter.unusedVariables false
set_option linter.unusedSimpArgs false
namespace Go.Proofs.Ytcfbhojpemjjpaa
open Go Go.RowKit Go.ChangeShapes Go.WideShapes

set_option maxRecDepth 100000 in
theorem lifted_EphemGoes (os : Os) (started : os.Started) (H : Type) (enc : TypeId × Value → H) :
    ReturnsInHanded {} Try.checked os 11 .any (Ytcfbhojpemjjpaa.Rows.ephemGoesSpec.pre6 enc Try.prog Try.f11 Ytcfbhojpemjjpaa.Rows.ephemGoesRow.domain false) (Ytcfbhojpemjjpaa.Rows.ephemGoesSpec.post enc Try.prog Try.f11 false true false false) := by
  refine returnsInHanded_of_change_sized (C := Try.checked) own started (by kernel_rfl) Try.func11
    (ChangeSpec.witness6 (enc := enc) (C := Try.checked) false ⟨#[], #[.slice none 0 0, .slice none 0 0], []⟩ 8 (by kernel_rfl) (by kernel_rfl) (by kernel_rfl) (by kernel_rfl)) ?_
  intro W base args ds gs before hval0 hW hcnd hsz0 _
  have hsz : (DataW.weightsEach Try.prog (Try.f11.params.toList ++ Ytcfbhojpemjjpaa.Rows.ephemGoesSpec.plain.varTypes Try.prog) (ds ++ gs)).all (· ≤ reachBytes) = true := hsz0
  have hval : ∀ (j : Nat) t v, Try.f11.params[j]? = some t → args[j]? = some v → Value.okWide Try.prog W .any base t v := hval0
  have hW' := hW
  obtain ⟨p, q, hA0, hV, rfl, hfz, hnd⟩ := hW
  have hA : DataW.TrodAll enc Try.prog W 0 (fun _ => true) true Try.f11.params.toList args.toList ds p := hA0
  obtain ⟨rfl, rfl⟩ := trodVars_none hV
  rw [Try.params11] at hA hval hsz
  have hsz' : (DataW.weightsEach Try.prog [22, 43] ds).all (· ≤ reachBytes) = true := by rw [List.append_nil] at hsz; exact hsz
  obtain ⟨avs, h2, hty⟩ := args_read (d := 9) [22, 43] args.toList ds p hA (fun j t v ht hv => hval j t v (by simpa using ht) (by simpa using hv)) (by kernel_rfl) hsz'
  obtain ⟨a0, l0, rfl, t0, a1, l1, rfl, t1, rfl⟩ := hty
  obtain ⟨b0, rfl, w0, z0⟩ := ta_tab t0
  obtain ⟨b1, rfl, w1, z1⟩ := ta_ints t1
  have hcall := law_calls (EphemGoes b0 b1) h2
  rw [Array.toArray_toList] at hcall
  refine hcall.mono fun e W' ⟨he, bel⟩ => ?_
  subst he
  have hback := args_back (enc := enc) laidOut bel [22, 43] args.toList ds p hA (by kernel_rfl)
  obtain ⟨v0, vs0, d0, ds0, p0, q0, hargs, rfl, rfl, k0, r0⟩ := trodAll_cons hA
  obtain ⟨v1, vs1, d1, ds1, p1, q1, rfl, rfl, rfl, k1, r1⟩ := trodAll_cons r0
  obtain ⟨rfl, rfl, rfl⟩ := trodAll_nil r1
  exact ⟨_, rfl, _, _, _, [], _, [], hW', trodAll_mk1 (shut_bool Try.underlying4 _), hback, rfl, bel.frame _, fun h => by cases h⟩
theorem over_EphemGoes : Ytcfbhojpemjjpaa.Rows.ephemGoesRow.holds Ytcfbhojpemjjpaa.Try.pinned (OpenSpec.ofChange Ytcfbhojpemjjpaa.Rows.ephemGoesSpec) :=
  OpenClaim.holds_of_wide 11 Try.f11 rfl rfl rfl rfl rfl rfl rfl ⟨rfl, rfl, rfl, rfl, rfl⟩ rfl rfl rfl rfl rfl (by kernel_rfl) Try.func11 (by kernel_rfl)
    (of_decide_eq_true (by kernel_rfl)) (by unfold Func.isWrapper; first | (rw [if_pos (by decide +kernel)]; kernel_rfl) | (rw [if_neg (by decide +kernel)]; exact ⟨rfl, rfl⟩))
    (fun os started H enc _ => lifted_EphemGoes os started H enc)
theorem ephemGoes_holds : Ytcfbhojpemjjpaa.Rows.EphemGoesSaid := over_EphemGoes
end Go.Proofs.Ytcfbhojpemjjpaa
