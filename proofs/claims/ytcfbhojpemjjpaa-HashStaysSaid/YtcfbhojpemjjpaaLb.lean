/- The laws HashStays, HashFull. -/
import Derived.Test.YtcfbhojpemjjpaaLa
set_option linter.unusedVariables false
set_option linter.unusedSimpArgs false
namespace Go.Proofs.Ytcfbhojpemjjpaa
open Go Go.RowKit

theorem wN {i : Nat} (j : Nat) (h : i + j ≤ 1000000) : IntKind.i64.wrap ((i : Int) + (j : Int)) = ((i + j : Nat) : Int) := by rw [wrapI (by omega) (by omega)]; omega
theorem get_lt {α : Type} {l : List α} {i : Nat} (h : i < l.length) : ∃ x, l[i]? = some x := ⟨_, List.getElem?_eq_getElem h⟩
set_option maxRecDepth 100000 in
theorem HashStays (T : List Pl) (l : List Int) : C Try.prog 5 [encT T, encI l] (.bool true) := by
  refine fnOk mixed tyOk Try.func5 (code := Try.f5.body.getD .skip) rfl rfl rfl (gC_in ?_)
  repeat (first | (refine oR ?_; (conv => whnf)) | refine kOps ?_ | refine oNil ?_ | refine sSeq ?_ | refine sR ?_ | refine qSeqN ?_)
  rcases right_cases T with hc | ⟨hc, h⟩
  · (refine oCall rfl (.inl rfl) rfl rfl rfl (.fz [] _) rfl ⟨rfl, hc, ?_⟩; (conv => whnf))
    repeat (first | (refine oR ?_; (conv => whnf)) | refine kOps ?_ | refine oH ?_ | refine oNil ?_ | refine sSeq ?_ | refine sR ?_ | refine qSeqN ?_ | refine sT ?_ | (refine sBT ?_; (conv => whnf)))
    (refine oCall rfl (.inl rfl) rfl rfl rfl (.fz [] _) rfl ⟨rfl, c_shown10, ?_⟩; (conv => whnf))
    repeat (first | (refine oR ?_; (conv => whnf)) | refine kOps ?_ | refine oNil ?_ | refine qSeqN ?_ | refine sRet ?_ | refine qSeqR ?_)
    refine qEnd ?_
    conv => whnf
    rfl
  · (refine oCall rfl (.inl rfl) rfl rfl rfl (.fz [] _) rfl ⟨rfl, hc, ?_⟩; (conv => whnf))
    repeat (first | (refine oR ?_; (conv => whnf)) | refine kOps ?_ | (refine oG ?_; (conv => whnf)) | (refine sBF ?_; (conv => whnf)))
    refine oS rfl rfl rfl (fun hl => ?_) (fun hl => ?_)
    · repeat (first | (refine oR ?_; (conv => whnf)) | refine kOps ?_ | refine oH ?_ | refine oNil ?_ | refine sSeq ?_ | refine sR ?_ | refine qSeqN ?_ | refine sT ?_ | (refine sBT ?_; (conv => whnf)))
      (refine oCall rfl (.inl rfl) rfl rfl rfl (.fz [] _) rfl ⟨rfl, c_shown10, ?_⟩; (conv => whnf))
      repeat (first | (refine oR ?_; (conv => whnf)) | refine kOps ?_ | refine oNil ?_ | refine qSeqN ?_ | refine sRet ?_ | refine qSeqR ?_)
      refine qEnd ?_
      conv => whnf
      rfl
    · have hl : l.length ≤ 60 := by have := dF hl; simp at this; omega
      skip
      (refine oCall rfl (.inr ⟨_, _, _, rfl, rfl, rfl⟩) rfl rfl rfl (.fz [] _) rfl ⟨rfl, c_shown10, ?_⟩; (conv => whnf))
      repeat (first | (refine oR ?_; (conv => whnf)) | refine kOps ?_ | (refine oG ?_; (conv => whnf)) | refine oNil ?_ | refine sSeq ?_ | refine sR ?_ | refine qSeqN ?_ | refine sSkip ?_ | refine sF ?_ | refine sBlk ?_ | (refine sBF ?_; (conv => whnf)))
      refine sLoop (fun q : Nat × List Pl => q.1 ≤ 62 ∧ Rt q.2) (fun q => ⟨tl [(0, encT q.2), (1, encI l), (5, eI (q.1 : Int))], Ll [], 67, 0, [], none⟩) (fun q => 62 - q.1) (0, T) .kp ⟨by simp, h⟩ fun q hq => ?_
      obtain ⟨i, T'⟩ := q
      obtain ⟨hi, h'⟩ := hq
      simp only at hi h'
      have e1 := wN (i := i) 1 (by omega)
      have e2 := wN (i := i) 2 (by omega)
      repeat (first | (refine oR ?_; (conv => whnf)) | refine kOps ?_ | refine oNil ?_ | refine sSeq ?_ | refine sR ?_ | refine qSeqN ?_)
      refine sC rfl (fun hlt => ?_) (fun hlt => ?_)
      · have hlt : i + 1 < l.length := by
          have := dT hlt
          rw [show IntKind.i64.wrap ((i : Int) + 1) = _ from e1] at this
          simp at this
          omega
        obtain ⟨n, hn⟩ := get_lt (l := l) (i := i) (by omega)
        obtain ⟨k, hk⟩ := get_lt hlt
        repeat (first | (refine oR ?_; (conv => whnf)) | refine kOps ?_ | refine sSeq ?_ | refine sR ?_ | refine qSeqN ?_ | refine sSkip ?_ | refine sBlk ?_)
        refine ⟨i, _, rfl, encI_get hn, ?_⟩
        conv => whnf
        repeat (first | (refine oR ?_; (conv => whnf)) | refine kOps ?_)
        refine ⟨by decide, ?_⟩
        repeat (first | (refine oR ?_; (conv => whnf)) | refine kOps ?_ | refine oNil ?_ | refine qSeqN ?_)
        refine sC rfl (fun h3 => ?_) (fun h3 => ?_)
        · repeat (first | (refine oR ?_; (conv => whnf)) | refine kOps ?_ | refine sSeq ?_ | refine sR ?_)
          refine ⟨i + 1, _, e1, encI_get hk, ?_⟩
          conv => whnf
          repeat (first | (refine oR ?_; (conv => whnf)) | refine kOps ?_)
          (refine oCall rfl (.inl rfl) rfl rfl rfl (.fz [] _) rfl ⟨rfl, r_drop h' k, ?_⟩; (conv => whnf))
          repeat (first | (refine oR ?_; (conv => whnf)) | refine kOps ?_ | refine oNil ?_ | refine sSeq ?_ | refine sR ?_ | refine qSeqN ?_)
          (refine oCall rfl (.inl rfl) rfl rfl rfl (.fz [] _) rfl ⟨rfl, r_ok (h'.drop k), ?_⟩; (conv => whnf))
          repeat (first | (refine oR ?_; (conv => whnf)) | refine kOps ?_ | refine oNil ?_ | refine sR ?_ | refine qSeqN ?_ | refine sSkip ?_ | refine sF ?_ | refine qBlkN ?_)
          exact qLoopN (i + 2, (dropL T' k).1) (.keep _ _ _ _ trivial ⟨rfl, rfl, congrArg eI e2, trivial⟩ rfl rfl) ⟨by simp only; omega, h'.drop k⟩ (by simp only; omega)
        · repeat (first | refine sSeq ?_ | refine sD ?_ | (apply drRun; exact rfl; exact .inl rfl; (conv => whnf); exact .mk rfl) | (apply drRun; exact rfl; exact .inl rfl; (conv => whnf)))
          refine ⟨i + 1, _, e1, encI_get hk, ?_⟩
          conv => whnf
          exact .mk rfl
          repeat (first | (apply drRun; exact rfl; exact .inl rfl; (conv => whnf); exact .mk rfl) | (apply drRun; exact rfl; exact .inl rfl; (conv => whnf)))
          refine ⟨i, _, rfl, encI_get hn, ?_⟩
          conv => whnf
          exact .mk rfl
          repeat (first | (apply drRun; exact rfl; exact .inl rfl; (conv => whnf); exact .mk rfl) | (apply drRun; exact rfl; exact .inl rfl; (conv => whnf)))
          (refine ⟨.fz [] _, rfl, r_put h' k n, ?_⟩; (conv => whnf); exact .mk rfl)
          repeat (first | (refine oR ?_; (conv => whnf)) | refine kOps ?_ | refine oNil ?_ | refine sSeq ?_ | refine sR ?_ | refine qSeqN ?_ | (apply drRun; exact rfl; exact .inl rfl; (conv => whnf); exact .mk rfl) | refine drNil ?_)
          (refine oCall rfl (.inl rfl) rfl rfl rfl (.fz [] _) rfl ⟨rfl, r_ok (h'.put k n), ?_⟩; (conv => whnf))
          repeat (first | (refine oR ?_; (conv => whnf)) | refine kOps ?_ | refine oNil ?_ | refine sR ?_ | refine qSeqN ?_ | refine sSkip ?_ | refine sF ?_ | refine qBlkN ?_)
          exact qLoopN (i + 2, (putL T' k n).1) (.keep _ _ _ _ trivial ⟨rfl, rfl, congrArg eI e2, trivial⟩ rfl rfl) ⟨by simp only; omega, h'.put k n⟩ (by simp only; omega)
      · repeat (first | (refine oR ?_; (conv => whnf)) | refine kOps ?_ | refine oNil ?_ | refine sSeq ?_ | refine sR ?_ | refine qSeqN ?_ | refine sRet ?_ | refine sExit ?_ | refine qSeqE ?_ | refine qX ?_ | refine qLoopE ?_)
        refine qEnd ?_
        conv => whnf
        rfl
end Go.Proofs.Ytcfbhojpemjjpaa
