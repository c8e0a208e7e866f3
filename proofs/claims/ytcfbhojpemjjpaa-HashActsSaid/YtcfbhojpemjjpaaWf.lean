/- Walks: Get. -/
import Derived.Test.YtcfbhojpemjjpaaSq
set_option linter.unusedVariables false
set_option linter.unusedSimpArgs false
namespace Go.Proofs.Ytcfbhojpemjjpaa
open Go Go.RowKit

theorem c_hget (T : List Pl) (k : Int) (hT : T.length ≤ 1099511627776) : C Try.prog 17 [encT T, eI k] (eGet (getAt T (hFind T k))) := by
  refine fnOk mixed tyOk Try.func17 (code := Try.f17.body.getD .skip) rfl rfl rfl (gC_in ?_)
  have ho := hFind_or T k
  have hc := c_hfind T k hT
  generalize hFind T k = i at ho hc ⊢
  repeat (first | (refine oR ?_; (conv => whnf)) | refine kOps ?_ | (refine oG ?_; (conv => whnf)) | refine oH ?_ | refine oV ?_ | refine oNil ?_ | refine sSeq ?_ | refine sR ?_ | refine qSeqN ?_ | refine sSkip ?_ | refine sT ?_ | refine sF ?_ | refine sBlk ?_ | refine sRet ?_ | refine sExit ?_ | refine sLabel ?_ | refine qSeqE ?_ | refine qSeqR ?_ | refine qBlkN ?_ | refine qBlkR ?_ | refine qX ?_ | refine qY ?_ | refine qLoopE ?_ | refine qLoopR ?_ | refine qJE ?_ | refine qJR ?_ | refine qRndE ?_ | refine qRndR ?_ | (refine sBT ?_; (conv => whnf)) | (refine sBF ?_; (conv => whnf)) | refine sD ?_ | (apply drRun; exact rfl; exact .inl rfl; (conv => whnf); exact .mk rfl) | (apply drRun; exact rfl; exact .inr ⟨_, _, _, rfl, rfl, rfl⟩; (conv => whnf); exact .mk rfl) | refine dH ?_ | refine dV ?_ | (apply drRun; exact rfl; exact .inl rfl; (conv => whnf)) | (apply drRun; exact rfl; exact .inr ⟨_, _, _, rfl, rfl, rfl⟩; (conv => whnf)) | refine drNil ?_)
  first
    | (refine oCall rfl (.inl rfl) rfl rfl rfl (.fz [] _) rfl ⟨rfl, hc, ?_⟩; (conv => whnf))
    | (refine oCall rfl (.inr ⟨_, _, _, rfl, rfl, rfl⟩) rfl rfl rfl (.fz [] _) rfl ⟨rfl, hc, ?_⟩; (conv => whnf))
    | (refine ⟨.fz [] _, rfl, hc, ?_⟩; (conv => whnf); exact .mk rfl)
  repeat (first | (refine oR ?_; (conv => whnf)) | refine kOps ?_ | (refine oG ?_; (conv => whnf)) | refine oH ?_ | refine oV ?_ | refine oNil ?_ | refine sSeq ?_ | refine sR ?_ | refine qSeqN ?_ | refine sSkip ?_ | refine sT ?_ | refine sF ?_ | refine sBlk ?_ | refine sRet ?_ | refine sExit ?_ | refine sLabel ?_ | refine qSeqE ?_ | refine qSeqR ?_ | refine qBlkN ?_ | refine qBlkR ?_ | refine qX ?_ | refine qY ?_ | refine qLoopE ?_ | refine qLoopR ?_ | refine qJE ?_ | refine qJR ?_ | refine qRndE ?_ | refine qRndR ?_ | (refine sBT ?_; (conv => whnf)) | (refine sBF ?_; (conv => whnf)) | refine sD ?_ | (apply drRun; exact rfl; exact .inl rfl; (conv => whnf); exact .mk rfl) | (apply drRun; exact rfl; exact .inr ⟨_, _, _, rfl, rfl, rfl⟩; (conv => whnf); exact .mk rfl) | refine dH ?_ | refine dV ?_ | (apply drRun; exact rfl; exact .inl rfl; (conv => whnf)) | (apply drRun; exact rfl; exact .inr ⟨_, _, _, rfl, rfl, rfl⟩; (conv => whnf)) | refine drNil ?_)
  rcases ho with rfl | ⟨n, p, hp, _, rfl⟩
  · repeat (first | (refine oR ?_; (conv => whnf)) | refine kOps ?_ | (refine oG ?_; (conv => whnf)) | refine oH ?_ | refine oV ?_ | refine oNil ?_ | refine sSeq ?_ | refine sR ?_ | refine qSeqN ?_ | refine sSkip ?_ | refine sT ?_ | refine sF ?_ | refine sBlk ?_ | refine sRet ?_ | refine sExit ?_ | refine sLabel ?_ | refine qSeqE ?_ | refine qSeqR ?_ | refine qBlkN ?_ | refine qBlkR ?_ | refine qX ?_ | refine qY ?_ | refine qLoopE ?_ | refine qLoopR ?_ | refine qJE ?_ | refine qJR ?_ | refine qRndE ?_ | refine qRndR ?_ | (refine sBT ?_; (conv => whnf)) | (refine sBF ?_; (conv => whnf)) | refine sD ?_ | (apply drRun; exact rfl; exact .inl rfl; (conv => whnf); exact .mk rfl) | (apply drRun; exact rfl; exact .inr ⟨_, _, _, rfl, rfl, rfl⟩; (conv => whnf); exact .mk rfl) | refine dH ?_ | refine dV ?_ | (apply drRun; exact rfl; exact .inl rfl; (conv => whnf)) | (apply drRun; exact rfl; exact .inr ⟨_, _, _, rfl, rfl, rfl⟩; (conv => whnf)) | refine drNil ?_)
    first | refine qEnd ?_ | refine qEndN ?_
    conv => whnf
    rfl
  · refine sC rfl (fun h => ?_) (fun h => ?_)
    · exfalso; simp at h <;> omega
    · have e : getAt T (n : Int) = (p.vl, 0) := by simp [getAt, hp]
      rw [e]
      repeat (first | (refine oR ?_; (conv => whnf)) | refine kOps ?_ | (refine oG ?_; (conv => whnf)) | refine oH ?_ | refine oV ?_ | refine oNil ?_ | refine sSeq ?_ | refine sR ?_ | refine qSeqN ?_ | refine sSkip ?_ | refine sT ?_ | refine sF ?_ | refine sBlk ?_ | refine sRet ?_ | refine sExit ?_ | refine sLabel ?_ | refine qSeqE ?_ | refine qSeqR ?_ | refine qBlkN ?_ | refine qBlkR ?_ | refine qX ?_ | refine qY ?_ | refine qLoopE ?_ | refine qLoopR ?_ | refine qJE ?_ | refine qJR ?_ | refine qRndE ?_ | refine qRndR ?_ | (refine sBT ?_; (conv => whnf)) | (refine sBF ?_; (conv => whnf)) | refine sD ?_ | (apply drRun; exact rfl; exact .inl rfl; (conv => whnf); exact .mk rfl) | (apply drRun; exact rfl; exact .inr ⟨_, _, _, rfl, rfl, rfl⟩; (conv => whnf); exact .mk rfl) | refine dH ?_ | refine dV ?_ | (apply drRun; exact rfl; exact .inl rfl; (conv => whnf)) | (apply drRun; exact rfl; exact .inr ⟨_, _, _, rfl, rfl, rfl⟩; (conv => whnf)) | refine drNil ?_)
      refine ⟨n, _, rfl, enc_get hp, ?_⟩
      conv => whnf
      repeat (first | (refine oR ?_; (conv => whnf)) | refine kOps ?_ | (refine oG ?_; (conv => whnf)) | refine oH ?_ | refine oV ?_ | refine oNil ?_ | refine sSeq ?_ | refine sR ?_ | refine qSeqN ?_ | refine sSkip ?_ | refine sT ?_ | refine sF ?_ | refine sBlk ?_ | refine sRet ?_ | refine sExit ?_ | refine sLabel ?_ | refine qSeqE ?_ | refine qSeqR ?_ | refine qBlkN ?_ | refine qBlkR ?_ | refine qX ?_ | refine qY ?_ | refine qLoopE ?_ | refine qLoopR ?_ | refine qJE ?_ | refine qJR ?_ | refine qRndE ?_ | refine qRndR ?_ | (refine sBT ?_; (conv => whnf)) | (refine sBF ?_; (conv => whnf)) | refine sD ?_ | (apply drRun; exact rfl; exact .inl rfl; (conv => whnf); exact .mk rfl) | (apply drRun; exact rfl; exact .inr ⟨_, _, _, rfl, rfl, rfl⟩; (conv => whnf); exact .mk rfl) | refine dH ?_ | refine dV ?_ | (apply drRun; exact rfl; exact .inl rfl; (conv => whnf)) | (apply drRun; exact rfl; exact .inr ⟨_, _, _, rfl, rfl, rfl⟩; (conv => whnf)) | refine drNil ?_)
      first | refine qEnd ?_ | refine qEndN ?_
      conv => whnf
      rfl
theorem c_get (T : List Pl) (k : Int) (hT : T.length ≤ 1099511627776) : C Try.prog 18 [encT T, eI k] (eGet (getAt T (findL T k))) := by
  refine fnOk mixed tyOk Try.func18 (code := Try.f18.body.getD .skip) rfl rfl rfl (gC_in ?_)
  have ho := findL_or T k
  have hc := c_find T k hT
  generalize findL T k = i at ho hc ⊢
  repeat (first | (refine oR ?_; (conv => whnf)) | refine kOps ?_ | (refine oG ?_; (conv => whnf)) | refine oH ?_ | refine oV ?_ | refine oNil ?_ | refine sSeq ?_ | refine sR ?_ | refine qSeqN ?_ | refine sSkip ?_ | refine sT ?_ | refine sF ?_ | refine sBlk ?_ | refine sRet ?_ | refine sExit ?_ | refine sLabel ?_ | refine qSeqE ?_ | refine qSeqR ?_ | refine qBlkN ?_ | refine qBlkR ?_ | refine qX ?_ | refine qY ?_ | refine qLoopE ?_ | refine qLoopR ?_ | refine qJE ?_ | refine qJR ?_ | refine qRndE ?_ | refine qRndR ?_ | (refine sBT ?_; (conv => whnf)) | (refine sBF ?_; (conv => whnf)) | refine sD ?_ | (apply drRun; exact rfl; exact .inl rfl; (conv => whnf); exact .mk rfl) | (apply drRun; exact rfl; exact .inr ⟨_, _, _, rfl, rfl, rfl⟩; (conv => whnf); exact .mk rfl) | refine dH ?_ | refine dV ?_ | (apply drRun; exact rfl; exact .inl rfl; (conv => whnf)) | (apply drRun; exact rfl; exact .inr ⟨_, _, _, rfl, rfl, rfl⟩; (conv => whnf)) | refine drNil ?_)
  first
    | (refine oCall rfl (.inl rfl) rfl rfl rfl (.fz [] _) rfl ⟨rfl, hc, ?_⟩; (conv => whnf))
    | (refine oCall rfl (.inr ⟨_, _, _, rfl, rfl, rfl⟩) rfl rfl rfl (.fz [] _) rfl ⟨rfl, hc, ?_⟩; (conv => whnf))
    | (refine ⟨.fz [] _, rfl, hc, ?_⟩; (conv => whnf); exact .mk rfl)
  repeat (first | (refine oR ?_; (conv => whnf)) | refine kOps ?_ | (refine oG ?_; (conv => whnf)) | refine oH ?_ | refine oV ?_ | refine oNil ?_ | refine sSeq ?_ | refine sR ?_ | refine qSeqN ?_ | refine sSkip ?_ | refine sT ?_ | refine sF ?_ | refine sBlk ?_ | refine sRet ?_ | refine sExit ?_ | refine sLabel ?_ | refine qSeqE ?_ | refine qSeqR ?_ | refine qBlkN ?_ | refine qBlkR ?_ | refine qX ?_ | refine qY ?_ | refine qLoopE ?_ | refine qLoopR ?_ | refine qJE ?_ | refine qJR ?_ | refine qRndE ?_ | refine qRndR ?_ | (refine sBT ?_; (conv => whnf)) | (refine sBF ?_; (conv => whnf)) | refine sD ?_ | (apply drRun; exact rfl; exact .inl rfl; (conv => whnf); exact .mk rfl) | (apply drRun; exact rfl; exact .inr ⟨_, _, _, rfl, rfl, rfl⟩; (conv => whnf); exact .mk rfl) | refine dH ?_ | refine dV ?_ | (apply drRun; exact rfl; exact .inl rfl; (conv => whnf)) | (apply drRun; exact rfl; exact .inr ⟨_, _, _, rfl, rfl, rfl⟩; (conv => whnf)) | refine drNil ?_)
  rcases ho with ⟨rfl, _⟩ | ⟨n, p, hp, _, rfl, _⟩
  · repeat (first | (refine oR ?_; (conv => whnf)) | refine kOps ?_ | (refine oG ?_; (conv => whnf)) | refine oH ?_ | refine oV ?_ | refine oNil ?_ | refine sSeq ?_ | refine sR ?_ | refine qSeqN ?_ | refine sSkip ?_ | refine sT ?_ | refine sF ?_ | refine sBlk ?_ | refine sRet ?_ | refine sExit ?_ | refine sLabel ?_ | refine qSeqE ?_ | refine qSeqR ?_ | refine qBlkN ?_ | refine qBlkR ?_ | refine qX ?_ | refine qY ?_ | refine qLoopE ?_ | refine qLoopR ?_ | refine qJE ?_ | refine qJR ?_ | refine qRndE ?_ | refine qRndR ?_ | (refine sBT ?_; (conv => whnf)) | (refine sBF ?_; (conv => whnf)) | refine sD ?_ | (apply drRun; exact rfl; exact .inl rfl; (conv => whnf); exact .mk rfl) | (apply drRun; exact rfl; exact .inr ⟨_, _, _, rfl, rfl, rfl⟩; (conv => whnf); exact .mk rfl) | refine dH ?_ | refine dV ?_ | (apply drRun; exact rfl; exact .inl rfl; (conv => whnf)) | (apply drRun; exact rfl; exact .inr ⟨_, _, _, rfl, rfl, rfl⟩; (conv => whnf)) | refine drNil ?_)
    first | refine qEnd ?_ | refine qEndN ?_
    conv => whnf
    rfl
  · refine sC rfl (fun h => ?_) (fun h => ?_)
    · exfalso; simp at h <;> omega
    · have e : getAt T (n : Int) = (p.vl, 0) := by simp [getAt, hp]
      rw [e]
      repeat (first | (refine oR ?_; (conv => whnf)) | refine kOps ?_ | (refine oG ?_; (conv => whnf)) | refine oH ?_ | refine oV ?_ | refine oNil ?_ | refine sSeq ?_ | refine sR ?_ | refine qSeqN ?_ | refine sSkip ?_ | refine sT ?_ | refine sF ?_ | refine sBlk ?_ | refine sRet ?_ | refine sExit ?_ | refine sLabel ?_ | refine qSeqE ?_ | refine qSeqR ?_ | refine qBlkN ?_ | refine qBlkR ?_ | refine qX ?_ | refine qY ?_ | refine qLoopE ?_ | refine qLoopR ?_ | refine qJE ?_ | refine qJR ?_ | refine qRndE ?_ | refine qRndR ?_ | (refine sBT ?_; (conv => whnf)) | (refine sBF ?_; (conv => whnf)) | refine sD ?_ | (apply drRun; exact rfl; exact .inl rfl; (conv => whnf); exact .mk rfl) | (apply drRun; exact rfl; exact .inr ⟨_, _, _, rfl, rfl, rfl⟩; (conv => whnf); exact .mk rfl) | refine dH ?_ | refine dV ?_ | (apply drRun; exact rfl; exact .inl rfl; (conv => whnf)) | (apply drRun; exact rfl; exact .inr ⟨_, _, _, rfl, rfl, rfl⟩; (conv => whnf)) | refine drNil ?_)
      refine ⟨n, _, rfl, enc_get hp, ?_⟩
      conv => whnf
      repeat (first | (refine oR ?_; (conv => whnf)) | refine kOps ?_ | (refine oG ?_; (conv => whnf)) | refine oH ?_ | refine oV ?_ | refine oNil ?_ | refine sSeq ?_ | refine sR ?_ | refine qSeqN ?_ | refine sSkip ?_ | refine sT ?_ | refine sF ?_ | refine sBlk ?_ | refine sRet ?_ | refine sExit ?_ | refine sLabel ?_ | refine qSeqE ?_ | refine qSeqR ?_ | refine qBlkN ?_ | refine qBlkR ?_ | refine qX ?_ | refine qY ?_ | refine qLoopE ?_ | refine qLoopR ?_ | refine qJE ?_ | refine qJR ?_ | refine qRndE ?_ | refine qRndR ?_ | (refine sBT ?_; (conv => whnf)) | (refine sBF ?_; (conv => whnf)) | refine sD ?_ | (apply drRun; exact rfl; exact .inl rfl; (conv => whnf); exact .mk rfl) | (apply drRun; exact rfl; exact .inr ⟨_, _, _, rfl, rfl, rfl⟩; (conv => whnf); exact .mk rfl) | refine dH ?_ | refine dV ?_ | (apply drRun; exact rfl; exact .inl rfl; (conv => whnf)) | (apply drRun; exact rfl; exact .inr ⟨_, _, _, rfl, rfl, rfl⟩; (conv => whnf)) | refine drNil ?_)
      first | refine qEnd ?_ | refine qEndN ?_
      conv => whnf
      rfl
end Go.Proofs.Ytcfbhojpemjjpaa
