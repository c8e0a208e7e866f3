/- Walks: Get. -/
import Derived.Test.YtcfbhojpemjjpaaSq
set_option linter.unusedVariables false
set_option linter.unusedSimpArgs false
namespace Go.Proofs.Ytcfbhojpemjjpaa
open Go Go.RowKit

theorem c_hget (T : List Pl) (k : Int) (hT : T.length ≤ 1099511627776) : C Try.prog 17 [encT T, eI k] (eGet (getAt T (hFind T k))) := by
  refine fnOk mixed tyOk Try.func17 (code := Try.f17.body.getD .skip) rfl rfl rfl (gC_in ?_)
  have ho := hFind_or T k
  have hc := c_hfind T k hT
  generalize hFind T k = i at ho hc ⊢
  repeat (first | (refine oR ?_; (conv => whnf)) | refine kOps ?_ | refine oNil ?_ | refine sSeq ?_ | refine sR ?_ | refine qSeqN ?_)
  (refine oCall rfl (.inl rfl) rfl rfl rfl (.fz [] _) rfl ⟨rfl, hc, ?_⟩; (conv => whnf))
  repeat (first | (refine oR ?_; (conv => whnf)) | refine kOps ?_ | refine oNil ?_ | refine sSeq ?_ | refine sR ?_ | refine qSeqN ?_)
  rcases ho with rfl | ⟨n, p, hp, _, rfl⟩
  · repeat (first | (refine oR ?_; (conv => whnf)) | refine kOps ?_ | refine oNil ?_ | refine sSeq ?_ | refine sR ?_ | refine qSeqN ?_ | refine sT ?_ | refine sRet ?_ | refine qSeqR ?_)
    refine qEnd ?_
    conv => whnf
    rfl
  · refine sC rfl (fun h => ?_) (fun h => ?_)
    · exfalso; simp at h <;> omega
    · have e : getAt T (n : Int) = (p.vl, 0) := by simp [getAt, hp]
      rw [e]
      repeat (first | (refine oR ?_; (conv => whnf)) | refine kOps ?_ | refine sSeq ?_ | refine sR ?_ | refine qSeqN ?_ | refine sSkip ?_)
      refine ⟨n, _, rfl, enc_get hp, ?_⟩
      conv => whnf
      repeat (first | (refine oR ?_; (conv => whnf)) | refine kOps ?_ | refine oNil ?_ | refine qSeqN ?_ | refine sRet ?_)
      refine qEnd ?_
      conv => whnf
      rfl
theorem c_get (T : List Pl) (k : Int) (hT : T.length ≤ 1099511627776) : C Try.prog 18 [encT T, eI k] (eGet (getAt T (findL T k))) := by
  refine fnOk mixed tyOk Try.func18 (code := Try.f18.body.getD .skip) rfl rfl rfl (gC_in ?_)
  have ho := findL_or T k
  have hc := c_find T k hT
  generalize findL T k = i at ho hc ⊢
  repeat (first | (refine oR ?_; (conv => whnf)) | refine kOps ?_ | refine oNil ?_ | refine sSeq ?_ | refine sR ?_ | refine qSeqN ?_)
  (refine oCall rfl (.inl rfl) rfl rfl rfl (.fz [] _) rfl ⟨rfl, hc, ?_⟩; (conv => whnf))
  repeat (first | (refine oR ?_; (conv => whnf)) | refine kOps ?_ | refine oNil ?_ | refine sSeq ?_ | refine sR ?_ | refine qSeqN ?_)
  rcases ho with ⟨rfl, _⟩ | ⟨n, p, hp, _, rfl, _⟩
  · repeat (first | (refine oR ?_; (conv => whnf)) | refine kOps ?_ | refine oNil ?_ | refine sSeq ?_ | refine sR ?_ | refine qSeqN ?_ | refine sT ?_ | refine sRet ?_ | refine qSeqR ?_)
    refine qEnd ?_
    conv => whnf
    rfl
  · refine sC rfl (fun h => ?_) (fun h => ?_)
    · exfalso; simp at h <;> omega
    · have e : getAt T (n : Int) = (p.vl, 0) := by simp [getAt, hp]
      rw [e]
      repeat (first | (refine oR ?_; (conv => whnf)) | refine kOps ?_ | refine sSeq ?_ | refine sR ?_ | refine qSeqN ?_ | refine sSkip ?_)
      refine ⟨n, _, rfl, enc_get hp, ?_⟩
      conv => whnf
      repeat (first | (refine oR ?_; (conv => whnf)) | refine kOps ?_ | refine oNil ?_ | refine qSeqN ?_ | refine sRet ?_)
      refine qEnd ?_
      conv => whnf
      rfl
end Go.Proofs.Ytcfbhojpemjjpaa
