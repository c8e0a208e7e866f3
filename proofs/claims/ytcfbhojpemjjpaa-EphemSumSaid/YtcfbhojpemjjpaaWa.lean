/- Walks. -/
import Derived.Test.YtcfbhojpemjjpaaSp
set_option linter.unusedVariables false
set_option linter.unusedSimpArgs false
namespace Go.Proofs.Ytcfbhojpemjjpaa
open Go Go.RowKit

theorem c_find (T : List Pl) (k : Int) (hT : T.length ≤ 1099511627776) : C Try.prog 24 [encT T, .int .i64 k] (.int .i64 (findL T k)) := by
  refine fnOk mixed tyOk Try.func24 (code := Try.f24.body.getD .skip) rfl rfl rfl (gC_in ?_)
  repeat (first | (refine oR ?_; (conv => whnf)) | refine kOps ?_ | refine oNil ?_ | refine sSeq ?_ | refine sR ?_ | refine qSeqN ?_ | refine sBlk ?_)
  refine sLoop (fun i => i ≤ T.length ∧ findGo k (T.drop i) i = findL T k) (fun i => ⟨tl [(0, encT T), (1, .int .i64 k), (5, .int .i64 (i : Int))], Ll [], 28, 0, [], none⟩) (fun i => T.length - i) 0
    (.keep [(0, encT T), (1, .int .i64 k), (5, .int .i64 ((0 : Nat) : Int))] [] [] 0 trivial ⟨rfl, rfl, rfl, trivial⟩ rfl rfl) ⟨Nat.zero_le _, rfl⟩ fun i hi => ?_
  obtain ⟨hi, hgo⟩ := hi
  repeat (first | (refine oR ?_; (conv => whnf)) | refine kOps ?_ | refine oNil ?_ | refine sSeq ?_ | refine sR ?_ | refine qSeqN ?_)
  refine sC rfl (fun h1 => ?_) (fun h1 => ?_)
  · have hlt : i < T.length := by have := dT h1; simp at this; omega
    have hx : T[i]? = some T[i] := List.getElem?_eq_getElem hlt
    rw [List.drop_eq_getElem_cons hlt, findGo] at hgo
    generalize T[i] = p at hx hgo
    have hnext : ¬ (p.st = 1 ∧ p.ky = k) → findGo k (T.drop (i + 1)) (i + 1) = findL T k := fun h => by rw [← hgo, if_neg h]
    have hthis : p.st = 1 ∧ p.ky = k → findL T k = (i : Int) := fun h => by rw [← hgo, if_pos h]
    repeat (first | (refine oR ?_; (conv => whnf)) | refine kOps ?_ | refine sSeq ?_ | refine sR ?_ | refine qSeqN ?_ | refine sSkip ?_ | refine sBlk ?_)
    refine ⟨i, _, rfl, enc_get hx, ?_⟩
    conv => whnf
    repeat (first | (refine oR ?_; (conv => whnf)) | refine kOps ?_)
    refine oS rfl rfl rfl (fun h2 => ?_) (fun h2 => ?_)
    · have h2 : p.st = 1 := by simpa using h2
      repeat (first | refine kOps ?_ | (refine oG ?_; (conv => whnf)))
      refine ⟨i, _, rfl, enc_get hx, ?_⟩
      conv => whnf
      repeat (first | (refine oR ?_; (conv => whnf)) | refine kOps ?_ | (refine oG ?_; (conv => whnf)) | refine oNil ?_ | refine qSeqN ?_ | (refine sBT ?_; (conv => whnf)))
      refine sC rfl (fun h3 => ?_) (fun h3 => ?_)
      · have h3 : p.ky = k := by simpa using h3
        repeat (first | (refine oR ?_; (conv => whnf)) | refine kOps ?_ | refine oNil ?_ | refine sSeq ?_ | refine sR ?_ | refine qSeqN ?_ | refine sRet ?_ | refine qSeqR ?_ | refine qBlkR ?_ | refine qLoopR ?_)
        rw [hthis ⟨h2, h3⟩]
        refine qEnd ?_
        conv => whnf
        rfl
      · have h3 : ¬ p.ky = k := by simpa using h3
        repeat (first | (refine oR ?_; (conv => whnf)) | refine kOps ?_ | refine oNil ?_ | refine sR ?_ | refine qSeqN ?_ | refine sSkip ?_ | refine qBlkN ?_)
        exact qLoopN (i + 1) (.keep [(0, encT T), (1, .int .i64 k), (5, .int .i64 ((i + 1 : Nat) : Int))] [] [] 0 trivial ⟨rfl, rfl, congrArg (AV.int .i64) (wrapS hlt hT), trivial⟩ rfl rfl) ⟨by omega, hnext fun h => h3 h.2⟩ (by omega)
    · have h2 : ¬ p.st = 1 := by simpa using h2
      repeat (first | (refine oR ?_; (conv => whnf)) | refine kOps ?_ | refine oH ?_ | refine oNil ?_ | refine sR ?_ | refine qSeqN ?_ | refine sSkip ?_ | refine sF ?_ | refine qBlkN ?_ | (refine sBF ?_; (conv => whnf)))
      exact qLoopN (i + 1) (.keep [(0, encT T), (1, .int .i64 k), (5, .int .i64 ((i + 1 : Nat) : Int))] [] [] 0 trivial ⟨rfl, rfl, congrArg (AV.int .i64) (wrapS hlt hT), trivial⟩ rfl rfl) ⟨by omega, hnext fun h => h2 h.1⟩ (by omega)
  · have : findL T k = -1 := by
      have := dF h1
      simp at this
      rw [← hgo, List.drop_eq_nil_of_le this]
      rfl
    rw [this]
    repeat (first | (refine oR ?_; (conv => whnf)) | refine kOps ?_ | refine oNil ?_ | refine sSeq ?_ | refine sR ?_ | refine qSeqN ?_ | refine sRet ?_ | refine sExit ?_ | refine qSeqE ?_ | refine qX ?_ | refine qLoopE ?_)
    refine qEnd ?_
    conv => whnf
    rfl
end Go.Proofs.Ytcfbhojpemjjpaa
