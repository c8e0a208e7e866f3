/- FixPlain: with no pairs, or none whose key is reached, just that is reached that fields reach. No conditions. -/
import Derived.Test.YtcmciimogcfakaaM8
set_option linter.unusedVariables false
set_option linter.unusedSimpArgs false
namespace Go.Proofs.Ytcmciimogcfakaa
open Go Go.RowKit Go.ChangeShapes Go.WideShapes

set_option maxRecDepth 100000 in
theorem lifted_FixPlain (os : Os) (started : os.Started) (H : Type) (enc : TypeId × Value → H) :
    ReturnsInHanded {} Try.checked os 3 .any (Ytcmciimogcfakaa.Rows.fixPlainSpec.pre6 enc Try.prog Try.f3 Ytcmciimogcfakaa.Rows.fixPlainRow.domain false) (Ytcmciimogcfakaa.Rows.fixPlainSpec.post enc Try.prog Try.f3 false true false false) := by
  refine returnsInHanded_of_change_sized (C := Try.checked) own started (by kernel_rfl) Try.func3
    (ChangeSpec.witness6 (enc := enc) (C := Try.checked) false ⟨#[], #[.agg #[.slice none 0 0, .int .i64 0, .int .i64 0], .slice none 0 0, .slice none 0 0], []⟩ 8 (by kernel_rfl) (by kernel_rfl) (by kernel_rfl) (by kernel_rfl)) ?_
  intro W base args ds gs before hval0 hW hcnd hsz0 _
  have hsz : (DataW.weightsEach Try.prog (Try.f3.params.toList ++ Ytcmciimogcfakaa.Rows.fixPlainSpec.plain.varTypes Try.prog) (ds ++ gs)).all (· ≤ reachBytes) = true := hsz0
  have hval : ∀ (j : Nat) t v, Try.f3.params[j]? = some t → args[j]? = some v → Value.okWide Try.prog W .any base t v := hval0
  have hW' := hW
  obtain ⟨p, q, hA0, hV, rfl, hfz, hnd⟩ := hW
  have hA : DataW.TrodAll enc Try.prog W 0 (fun _ => true) true Try.f3.params.toList args.toList ds p := hA0
  obtain ⟨rfl, rfl⟩ := trodVars_none hV
  rw [Try.params3] at hA hval hsz
  have hsz' : (DataW.weightsEach Try.prog [26, 27, 28] ds).all (· ≤ reachBytes) = true := by rw [List.append_nil] at hsz; exact hsz
  obtain ⟨avs, h2, hty⟩ := args_read (d := 9) [26, 27, 28] args.toList ds p hA (fun j t v ht hv => hval j t v (by simpa using ht) (by simpa using hv)) (by kernel_rfl) hsz'
  obtain ⟨a0, l0, rfl, t0, a1, l1, rfl, t1, a2, l2, rfl, t2, rfl⟩ := hty
  obtain ⟨b0, rfl⟩ := ta_store t0
  obtain ⟨b1, rfl, w1, z1⟩ := ta_tab t1
  obtain ⟨b2, rfl, w2, z2⟩ := ta_ints t2
  have hcall := law_calls (FixPlain b0.cs b0.la b0.sr b1 b2) h2
  rw [Array.toArray_toList] at hcall
  refine hcall.mono fun e W' ⟨he, bel⟩ => ?_
  subst he
  have hback := args_back (enc := enc) laidOut bel [26, 27, 28] args.toList ds p hA (by kernel_rfl)
  obtain ⟨v0, vs0, d0, ds0, p0, q0, hargs, rfl, rfl, k0, r0⟩ := trodAll_cons hA
  obtain ⟨v1, vs1, d1, ds1, p1, q1, rfl, rfl, rfl, k1, r1⟩ := trodAll_cons r0
  obtain ⟨v2, vs2, d2, ds2, p2, q2, rfl, rfl, rfl, k2, r2⟩ := trodAll_cons r1
  obtain ⟨rfl, rfl, rfl⟩ := trodAll_nil r2
  exact ⟨_, rfl, _, _, _, [], _, [], hW', trodAll_mk1 (shut_bool Try.underlying4 _), hback, rfl, bel.frame _, fun h => by cases h⟩
theorem over_FixPlain : Ytcmciimogcfakaa.Rows.fixPlainRow.holds Ytcmciimogcfakaa.Try.pinned (OpenSpec.ofChange Ytcmciimogcfakaa.Rows.fixPlainSpec) :=
  OpenClaim.holds_of_wide 3 Try.f3 rfl rfl rfl rfl rfl rfl rfl ⟨rfl, rfl, rfl, rfl, rfl⟩ rfl rfl rfl rfl rfl (by kernel_rfl) Try.func3 (by kernel_rfl)
    (of_decide_eq_true (by kernel_rfl)) (by unfold Func.isWrapper; first | (rw [if_pos (by decide +kernel)]; kernel_rfl) | (rw [if_neg (by decide +kernel)]; exact ⟨rfl, rfl⟩))
    (fun os started H enc _ => lifted_FixPlain os started H enc)
theorem fixPlain_holds : Ytcmciimogcfakaa.Rows.FixPlainSaid := over_FixPlain
end Go.Proofs.Ytcmciimogcfakaa
