/- The law HashFull. -/
import Derived.Test.YtcfbhojpemjjpaaLb
import Derived.Test.YtcfbhojpemjjpaaPc
set_option linter.unusedVariables false
set_option linter.unusedSimpArgs false
namespace Go.Proofs.Ytcfbhojpemjjpaa
open Go Go.RowKit

theorem q_put {T T2 : List Pl} {k v e : Int} (h : Rt T) (hp : putL T k v = (T2, e)) : C Try.prog 19 [encT T, eI k, eI v] (.tup [encT T2, eI e]) := by
  have := r_put h k v
  rwa [hp] at this
theorem q_drop {T T2 : List Pl} {k v e : Int} (h : Rt T) (hp : dropL T k = (T2, v, e)) : C Try.prog 21 [encT T, eI k] (.tup [encT T2, eI v, eI e]) := by
  have := r_drop h k
  rwa [hp] at this
theorem q_get {T : List Pl} {k v e : Int} (h : Rt T) (hp : getL T k = (v, e)) : C Try.prog 17 [encT T, eI k] (.tup [eI v, eI e]) := by
  have := r_get h k
  rwa [hp] at this
def fullK (n : Int) : Nat := 1 + n.toNat % 8
set_option maxRecDepth 100000 in
theorem HashFull (n : Int) (l : List Int) (more : Int) (hn : 0 ≤ n ∧ n ≤ 255) : C Try.prog 8 [.int .u8 n, encI l, eI more] (.bool true) := by
  refine fnOk mixed tyOk Try.func8 (code := Try.f8.body.getD .skip) rfl rfl rfl (gC_in ?_)
  have hK : IntKind.i64.wrap (1 + (IntKind.i64.wrap n).tmod 8) = (fullK n : Int) := by
    rw [wrapI (n := n) (by omega) (by omega)]
    have : n.tmod 8 = ((n.toNat % 8 : Nat) : Int) := by
      obtain ⟨m, rfl⟩ := Int.eq_ofNat_of_zero_le hn.1
      rw [show (8 : Int) = ((8 : Nat) : Int) from rfl, ← Int.ofNat_tmod]
      simp
    rw [this, wrapI (by omega) (by omega)]
    unfold fullK
    omega
  have hK1 : 1 ≤ fullK n ∧ fullK n ≤ 8 := by unfold fullK; omega
  generalize fullK n = K at hK hK1
  repeat (first | (refine oR ?_; (conv => whnf)) | refine kOps ?_ | refine oNil ?_ | refine sSeq ?_ | refine sR ?_ | refine qSeqN ?_)
  refine ⟨by decide, ?_⟩
  repeat (first | (refine oR ?_; (conv => whnf)) | refine kOps ?_ | refine oNil ?_ | refine sSeq ?_ | refine sR ?_ | refine qSeqN ?_)
  refine oS rfl rfl rfl (fun hl => ?_) (fun hl => ?_)
  · repeat (first | (refine oR ?_; (conv => whnf)) | refine kOps ?_ | refine oH ?_ | refine oNil ?_ | refine sSeq ?_ | refine sR ?_ | refine qSeqN ?_ | refine sT ?_ | (refine sBT ?_; (conv => whnf)))
    (refine oCall rfl (.inl rfl) rfl rfl rfl (.fz [] _) rfl ⟨rfl, c_shown10, ?_⟩; (conv => whnf))
    repeat (first | (refine oR ?_; (conv => whnf)) | refine kOps ?_ | refine oNil ?_ | refine qSeqN ?_ | refine sRet ?_ | refine qSeqR ?_)
    refine qEnd ?_
    conv => whnf
    rfl
  · have hl : l.length ≤ 60 := by have := dF hl; simp at this; omega
    skip
    (refine oCall rfl (.inr ⟨_, _, _, rfl, rfl, rfl⟩) rfl rfl rfl (.fz [] _) rfl ⟨rfl, c_shown10, ?_⟩; (conv => whnf))
    repeat (first | (refine oR ?_; (conv => whnf)) | refine kOps ?_ | (refine oG ?_; (conv => whnf)) | refine oNil ?_ | refine sSeq ?_ | refine sR ?_ | refine qSeqN ?_ | refine sSkip ?_ | refine sF ?_ | (refine sBF ?_; (conv => whnf)))
    have hnew : newL (IntKind.i64.wrap (1 + (IntKind.i64.wrap n).tmod 8)) = List.replicate K pl0 := by
      rw [hK, newL, if_neg (by omega)]
      simp
    have cnew := c_hnew (IntKind.i64.wrap (1 + (IntKind.i64.wrap n).tmod 8))
    rw [hnew] at cnew
    (refine oCall rfl (.inl rfl) rfl rfl rfl (.fz [] _) rfl ⟨rfl, cnew, ?_⟩; (conv => whnf))
    repeat (first | (refine oR ?_; (conv => whnf)) | refine kOps ?_ | refine oNil ?_ | refine sSeq ?_ | refine sR ?_ | refine qSeqN ?_ | refine sBlk ?_)
    refine bJoin (fun q : List Pl × List Int => Rt q.1 ∧ q.1.length = K ∧ (∀ y, (look q.1 y).isSome = true ↔ y ∈ q.2) ∧ cnt q.1 = q.2.length)
      (fun q => ⟨tl [(1, encI l), (2, eI more), (7, eI K), (8, encT q.1), (9, .mp 0)], Ll [(0, .map .i64 (eS q.2))], 135, 1, [], none⟩) (fun q hq => ?_) (fun hj => ?_)
    · obtain ⟨T, M⟩ := q
      obtain ⟨h, hTl, hM, hc⟩ := hq
      simp only at h hTl hM hc
      have hcl := cnt_le T
      have hlenM := eS_len M
      repeat (first | (refine oR ?_; (conv => whnf)) | refine kOps ?_ | refine sSeq ?_ | refine sR ?_)
      refine oS rfl rfl rfl (fun h1 => ?_) (fun h1 => ?_)
      · repeat (first | (refine oR ?_; (conv => whnf)) | refine kOps ?_ | refine oH ?_ | refine oNil ?_ | refine sSeq ?_ | refine sR ?_ | refine qSeqN ?_ | refine sT ?_ | refine sRet ?_ | refine qSeqR ?_ | (refine sBT ?_; (conv => whnf)))
        refine qEnd ?_
        conv => whnf
        rfl
      · have h1 : K ≤ M.length := by have := dF h1; rw [hlenM] at this; omega
        repeat (first | refine kOps ?_ | (refine oG ?_; (conv => whnf)))
        refine ⟨_, eS_get M more, ?_⟩
        by_cases hmm : more ∈ M
        · rw [if_pos hmm]
          conv => whnf
          repeat (first | (refine oR ?_; (conv => whnf)) | refine kOps ?_ | refine oNil ?_ | refine sSeq ?_ | refine sR ?_ | refine qSeqN ?_ | refine sT ?_ | refine sRet ?_ | refine qSeqR ?_ | (refine sBF ?_; (conv => whnf)))
          refine qEnd ?_
          conv => whnf
          rfl
        · rw [if_neg hmm]
          conv => whnf
          repeat (first | (refine oR ?_; (conv => whnf)) | refine kOps ?_ | refine oNil ?_ | refine sSeq ?_ | refine sR ?_ | refine qSeqN ?_ | refine sSkip ?_ | refine sF ?_ | (refine sBF ?_; (conv => whnf)))
          (refine oCall rfl (.inl rfl) rfl rfl rfl (.fz [] _) rfl ⟨rfl, c_hkeys T h.hT, ?_⟩; (conv => whnf))
          repeat (first | (refine oR ?_; (conv => whnf)) | refine kOps ?_ | refine oNil ?_ | refine sSeq ?_ | refine sR ?_ | refine qSeqN ?_)
          have hkl := keysL_len T
          refine sC rfl (fun h2 => ?_) (fun h2 => ?_)
          · exfalso
            have : ¬ ((((keysL T).map fun n => [AV.int .i64 n]).length : Int) = (K : Int)) := by simpa using h2
            rw [List.length_map] at this
            omega
          · obtain ⟨k0, ks, hks⟩ : ∃ k0 ks, keysL T = k0 :: ks := by
              cases hx : keysL T with
              | nil => rw [hx] at hkl; simp at hkl; omega
              | cons a b => exact ⟨a, b, rfl⟩
            have hno : look T more = none := by
              cases hx : look T more with
              | none => rfl
              | some v => exact absurd ((hM more).1 (by rw [hx]; rfl)) hmm
            obtain ⟨v0, hv0⟩ : ∃ v0, look T k0 = some v0 := Option.isSome_iff_exists.1 (look_key.2 (by rw [hks]; simp))
            have hne : more ≠ k0 := fun he => by rw [he, hv0] at hno; cases hno
            obtain ⟨A, hA, hAr, hAl, hAk, hAc⟩ := h.drop_ex hv0
            have hAn : look A more = none := by rw [hAk, if_neg hne]; exact hno
            obtain ⟨B, hB, hBr, hBl, hBk, hBc⟩ := hAr.put_ex more 1 (.inr (by omega))
            rw [hAn] at hBc
            have hBc : cnt B = cnt A + 1 := hBc
            repeat (first | (refine oR ?_; (conv => whnf)) | refine kOps ?_ | refine sSeq ?_ | refine sR ?_ | refine qSeqN ?_ | refine sSkip ?_)
            (refine oCall rfl (.inl rfl) rfl rfl rfl (.fz [] _) rfl ⟨rfl, q_put h (h.put_no more 1 hno (by omega)), ?_⟩; (conv => whnf))
            repeat (first | (refine oR ?_; (conv => whnf)) | refine kOps ?_ | refine oNil ?_ | refine sSeq ?_ | refine sR ?_ | refine qSeqN ?_)
            refine ⟨0, [eI k0], rfl, by rw [List.getElem?_map, hks]; rfl, ?_⟩
            conv => whnf
            repeat (first | (refine oR ?_; (conv => whnf)) | refine kOps ?_)
            (refine oCall rfl (.inl rfl) rfl rfl rfl (.fz [] _) rfl ⟨rfl, q_drop h hA, ?_⟩; (conv => whnf))
            repeat (first | (refine oR ?_; (conv => whnf)) | refine kOps ?_ | refine oNil ?_ | refine sSeq ?_ | refine sR ?_ | refine qSeqN ?_)
            (refine oCall rfl (.inl rfl) rfl rfl rfl (.fz [] _) rfl ⟨rfl, q_put hAr hB, ?_⟩; (conv => whnf))
            repeat (first | (refine oR ?_; (conv => whnf)) | refine kOps ?_ | refine oNil ?_ | refine sSeq ?_ | refine sR ?_ | refine qSeqN ?_)
            (refine oCall rfl (.inl rfl) rfl rfl rfl (.fz [] _) rfl ⟨rfl, q_get hBr (hBr.get_some (v := 1) (by rw [hBk, if_pos rfl])), ?_⟩; (conv => whnf))
            repeat (first | (refine oR ?_; (conv => whnf)) | refine kOps ?_ | (refine oG ?_; (conv => whnf)) | refine oNil ?_ | refine sSeq ?_ | refine sR ?_ | refine qSeqN ?_ | (refine sBT ?_; (conv => whnf)))
            (refine oCall rfl (.inr ⟨_, _, _, rfl, rfl, rfl⟩) rfl rfl rfl (.fz [] _) rfl ⟨rfl, c_hkeys B hBr.hT, ?_⟩; (conv => whnf))
            repeat (first | (refine oR ?_; (conv => whnf)) | refine kOps ?_ | (refine oG ?_; (conv => whnf)) | refine oNil ?_ | refine qSeqN ?_ | refine sRet ?_ | (refine sBT ?_; (conv => whnf)))
            refine qEnd ?_
            conv => whnf
            exact congrArg AV.bool (by rw [List.length_map, keysL_len]; simp; omega)
    · refine sLoop (fun q : Nat × List Pl × List Int => q.1 ≤ l.length ∧ Rt q.2.1 ∧ q.2.1.length = K ∧ (∀ y, (look q.2.1 y).isSome = true ↔ y ∈ q.2.2) ∧ cnt q.2.1 = q.2.2.length)
        (fun q => ⟨tl [(1, encI l), (2, eI more), (7, eI K), (8, encT q.2.1), (9, .mp 0), (10, eI (q.1 : Int))], Ll [(0, .map .i64 (eS q.2.2))], 135, 1, [], none⟩) (fun q => l.length - q.1) (0, List.replicate K pl0, [])
        (.keep _ _ _ _ ⟨rfl, trivial⟩ ⟨rfl, rfl, congrArg eI hK, rfl, rfl, rfl, trivial⟩ rfl rfl) ⟨by simp, Rt.new hK1.1 hK1.2, by simp, by simp [new_look], by simp [new_cnt]⟩ fun q hq => ?_
      obtain ⟨i, T, M⟩ := q
      obtain ⟨hi, h, hTl, hM, hc⟩ := hq
      simp only at hi h hTl hM hc
      have hcl := cnt_le T
      have hlenM := eS_len M
      repeat (first | (refine oR ?_; (conv => whnf)) | refine kOps ?_ | refine sSeq ?_ | refine sR ?_)
      refine oS rfl rfl rfl (fun h1 => ?_) (fun h1 => ?_)
      · have hlt : i < l.length := by have := dT h1; simp at this; omega
        obtain ⟨x, hx⟩ := get_lt hlt
        repeat (first | (refine oR ?_; (conv => whnf)) | refine kOps ?_ | (refine oG ?_; (conv => whnf)) | refine oNil ?_ | refine qSeqN ?_ | (refine sBT ?_; (conv => whnf)))
        refine sC rfl (fun h2 => ?_) (fun h2 => ?_)
        · have h2 : M.length < K := by have := dT h2; rw [hlenM] at this; omega
          obtain ⟨B, hB, hBr, hBl, hBk, hBc⟩ := h.put_ex x i (.inr (by omega))
          have hin : (look T x).isSome = true ↔ x ∈ M := hM x
          repeat (first | (refine oR ?_; (conv => whnf)) | refine kOps ?_ | refine sSeq ?_ | refine sR ?_ | refine qSeqN ?_ | refine sSkip ?_ | refine sBlk ?_)
          refine ⟨i, _, rfl, encI_get hx, ?_⟩
          conv => whnf
          repeat (first | (refine oR ?_; (conv => whnf)) | refine kOps ?_)
          (refine oCall rfl (.inl rfl) rfl rfl rfl (.fz [] _) rfl ⟨rfl, q_put h hB, ?_⟩; (conv => whnf))
          repeat (first | (refine oR ?_; (conv => whnf)) | refine kOps ?_ | refine oNil ?_ | refine sSeq ?_ | refine sR ?_ | refine qSeqN ?_ | refine sSkip ?_ | refine sF ?_)
          refine ⟨i, _, rfl, encI_get hx, ?_⟩
          conv => whnf
          repeat (first | (refine oR ?_; (conv => whnf)) | refine kOps ?_ | refine oNil ?_ | refine sR ?_ | refine qSeqN ?_ | refine qBlkN ?_)
          refine qLoopN (i + 1, B, sAdd M x) (.keep _ _ _ _ ⟨congrArg (Blk.map .i64) (eS_set M x), trivial⟩ ⟨rfl, rfl, rfl, rfl, rfl, congrArg eI (wrapS hlt (by omega)), trivial⟩ rfl rfl) ⟨by simp only; omega, hBr, by simp only; omega, fun y => ?_, ?_⟩ (by simp only; omega)
          · show (look B y).isSome = true ↔ y ∈ sAdd M x
            rw [hBk]
            unfold sAdd
            by_cases hy : y = x
            · rw [if_pos hy]
              by_cases hm : x ∈ M <;> simp [hm, hy]
            · rw [if_neg hy, hM y]
              by_cases hm : x ∈ M <;> simp [hm, hy]
          · show cnt B = (sAdd M x).length
            unfold sAdd
            rw [hBc]
            by_cases hm : x ∈ M
            · rw [if_pos (hin.2 hm), if_pos hm]; exact hc
            · rw [if_neg (fun h => hm (hin.1 h)), if_neg hm]; simp [hc]
        · repeat (first | refine sExit ?_ | refine qSeqE ?_ | refine qX ?_ | refine qLoopE ?_)
          exact qJoin .kp (hj (T, M) ⟨h, hTl, hM, hc⟩)
      · repeat (first | (refine oR ?_; (conv => whnf)) | refine kOps ?_ | refine oH ?_ | refine oNil ?_ | refine qSeqN ?_ | refine sF ?_ | refine sExit ?_ | refine qSeqE ?_ | refine qX ?_ | refine qLoopE ?_ | (refine sBF ?_; (conv => whnf)))
        exact qJoin .kp (hj (T, M) ⟨h, hTl, hM, hc⟩)
end Go.Proofs.Ytcfbhojpemjjpaa
