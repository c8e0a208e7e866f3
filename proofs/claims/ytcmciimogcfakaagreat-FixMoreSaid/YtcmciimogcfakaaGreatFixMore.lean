/- FixMore: with more to begin with, and with a pair more, no less is reached; the rounds are no more than the pairs. No conditions. -/
import Derived.Test.YtcmciimogcfakaaGreatM8
set_option linter.unusedVariables false
set_option linter.unusedSimpArgs false
namespace Go.Proofs.YtcmciimogcfakaaGreat
open Go Go.RowKit Go.ChangeShapes Go.WideShapes

set_option maxRecDepth 100000 in
theorem lifted_FixMore (os : Os) (started : os.Started) (H : Type) (enc : TypeId × Value → H) :
    ReturnsInHanded {} Tryz.checked os 5 .any (YtcmciimogcfakaaGreat.Rows.fixMoreSpec.pre6 enc Tryz.prog Tryz.f5 YtcmciimogcfakaaGreat.Rows.fixMoreRow.domain false) (YtcmciimogcfakaaGreat.Rows.fixMoreSpec.post enc Tryz.prog Tryz.f5 false true false false) := by
  refine returnsInHanded_of_change_sized (C := Tryz.checked) own started (by kernel_rfl) Tryz.func5
    (ChangeSpec.witness6 (enc := enc) (C := Tryz.checked) false ⟨#[], #[.agg #[.slice none 0 0, .int .i64 0, .int .i64 0], .slice none 0 0, .slice none 0 0, .slice none 0 0, .int .i64 0, .int .i64 0], []⟩ 8 (by kernel_rfl) (by kernel_rfl) (by kernel_rfl) (by kernel_rfl)) ?_
  intro W base args ds gs before hval0 hW hcnd hsz0 _
  have hsz : (DataW.weightsEach Tryz.prog (Tryz.f5.params.toList ++ YtcmciimogcfakaaGreat.Rows.fixMoreSpec.plain.varTypes Tryz.prog) (ds ++ gs)).all (· ≤ reachBytes) = true := hsz0
  have hval : ∀ (j : Nat) t v, Tryz.f5.params[j]? = some t → args[j]? = some v → Value.okWide Tryz.prog W .any base t v := hval0
  have hW' := hW
  obtain ⟨p, q, hA0, hV, rfl, hfz, hnd⟩ := hW
  have hA : DataW.TrodAll enc Tryz.prog W 0 (fun _ => true) true Tryz.f5.params.toList args.toList ds p := hA0
  obtain ⟨rfl, rfl⟩ := trodVars_none hV
  rw [Tryz.params5] at hA hval hsz
  have hsz' : (DataW.weightsEach Tryz.prog [26, 27, 28, 28, 3, 3] ds).all (· ≤ reachBytes) = true := by rw [List.append_nil] at hsz; exact hsz
  obtain ⟨avs, h2, hty⟩ := args_read (d := 9) [26, 27, 28, 28, 3, 3] args.toList ds p hA (fun j t v ht hv => hval j t v (by simpa using ht) (by simpa using hv)) (by kernel_rfl) hsz'
  obtain ⟨a0, l0, rfl, t0, a1, l1, rfl, t1, a2, l2, rfl, t2, a3, l3, rfl, t3, a4, l4, rfl, t4, a5, l5, rfl, t5, rfl⟩ := hty
  obtain ⟨b0, rfl⟩ := ta_store t0
  obtain ⟨b1, rfl, w1, z1⟩ := ta_tab t1
  obtain ⟨b2, rfl, w2, z2⟩ := ta_ints t2
  obtain ⟨b3, rfl, w3, z3⟩ := ta_ints t3
  obtain ⟨b4, rfl, w4⟩ := ta_int t4
  obtain ⟨b5, rfl, w5⟩ := ta_int t5
  have hcall := law_calls (FixMore b0.cs b0.la b0.sr b1 b2 b3 b4 b5) h2
  rw [Array.toArray_toList] at hcall
  refine hcall.mono fun e W' ⟨he, bel⟩ => ?_
  subst he
  have hback := args_back (enc := enc) laidOut bel [26, 27, 28, 28, 3, 3] args.toList ds p hA (by kernel_rfl)
  obtain ⟨v0, vs0, d0, ds0, p0, q0, hargs, rfl, rfl, k0, r0⟩ := trodAll_cons hA
  obtain ⟨v1, vs1, d1, ds1, p1, q1, rfl, rfl, rfl, k1, r1⟩ := trodAll_cons r0
  obtain ⟨v2, vs2, d2, ds2, p2, q2, rfl, rfl, rfl, k2, r2⟩ := trodAll_cons r1
  obtain ⟨v3, vs3, d3, ds3, p3, q3, rfl, rfl, rfl, k3, r3⟩ := trodAll_cons r2
  obtain ⟨v4, vs4, d4, ds4, p4, q4, rfl, rfl, rfl, k4, r4⟩ := trodAll_cons r3
  obtain ⟨v5, vs5, d5, ds5, p5, q5, rfl, rfl, rfl, k5, r5⟩ := trodAll_cons r4
  obtain ⟨rfl, rfl, rfl⟩ := trodAll_nil r5
  exact ⟨_, rfl, _, _, _, [], _, [], hW', trodAll_mk1 (shut_bool Tryz.underlying4 _), hback, rfl, bel.frame _, fun h => by cases h⟩
theorem over_FixMore : YtcmciimogcfakaaGreat.Rows.fixMoreRow.holds YtcmciimogcfakaaGreat.Tryz.pinned (OpenSpec.ofChange YtcmciimogcfakaaGreat.Rows.fixMoreSpec) :=
  OpenClaim.holds_of_wide 5 Tryz.f5 rfl rfl rfl rfl rfl rfl rfl ⟨rfl, rfl, rfl, rfl, rfl⟩ rfl rfl rfl rfl rfl (by kernel_rfl) Tryz.func5 (by kernel_rfl)
    (of_decide_eq_true (by kernel_rfl)) (by unfold Func.isWrapper; first | (rw [if_pos (by decide +kernel)]; kernel_rfl) | (rw [if_neg (by decide +kernel)]; exact ⟨rfl, rfl⟩))
    (fun os started H enc _ => lifted_FixMore os started H enc)
theorem fixMore_holds : YtcmciimogcfakaaGreat.Rows.FixMoreSaid := over_FixMore
end Go.Proofs.YtcmciimogcfakaaGreat
