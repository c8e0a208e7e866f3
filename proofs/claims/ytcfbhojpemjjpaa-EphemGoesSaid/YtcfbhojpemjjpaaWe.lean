/- Walks: Find, Get. -/
import Derived.Test.YtcfbhojpemjjpaaWd
set_option linter.unusedVariables false
set_option linter.unusedSimpArgs false
namespace Go.Proofs.Ytcfbhojpemjjpaa
open Go Go.RowKit

/-- Find by the road. -/
def hGo (k : Int) : List (Nat × Pl) → Int
  | [] => -1
  | q :: l => if q.2.st = 0 then -1 else if q.2.st = 1 ∧ q.2.ky = k then (q.1 : Int) else hGo k l
def hFind (T : List Pl) (k : Int) : Int := hGo k (roadP T k)
theorem c_hfind (T : List Pl) (k : Int) (hT : T.length ≤ 1099511627776) : C Try.prog 23 [encT T, .int .i64 k] (.int .i64 (hFind T k)) := by
  refine fnOk mixed tyOk Try.func23 (code := Try.f23.body.getD .skip) rfl rfl rfl (gC_in ?_)
  repeat (first | (refine oR ?_; (conv => whnf)) | refine kOps ?_ | refine oNil ?_ | refine sSeq ?_ | refine sR ?_ | refine qSeqN ?_)
  refine oCall rfl (.inl rfl) rfl rfl rfl (.fz [] (.fn 61 [.vptr [encT T], .vptr [.int .i64 k]])) rfl ⟨rfl, c_road T k, ?_⟩
  conv => whnf
  repeat (first | refine kOps ?_ | refine oNil ?_ | refine qSeqN ?_ | refine sBlk ?_)
  refine forIn rfl rfl (it_road T k hT) (fun _ => ⟨tl [(3, .ptr 0 0 0), (4, .ptr 1 0 0)], Ll [(0, .box 3 [.int .i64 k]), (1, .box 3 [i0])], 24, 2, [], none⟩) (fun i => hGo k ((roadP T k).drop i) = hFind T k)
    (.keep [(3, .ptr 0 0 0), (4, .ptr 1 0 0)] [(0, .box 3 [.int .i64 k]), (1, .box 3 [i0])] [] 2 ⟨rfl, rfl, trivial⟩ ⟨rfl, rfl, trivial⟩ rfl rfl) rfl (fun i z hi hz => ?_) (fun hn => ?_)
  · obtain ⟨⟨ix, p⟩, hq, rfl⟩ := get_map hz
    rw [drop_of hq, hGo] at hi
    refine ⟨rfl, rfl, ?_⟩
    repeat (first | (refine oR ?_; (conv => whnf)) | refine kOps ?_ | refine oNil ?_ | refine sSeq ?_ | refine sR ?_ | refine qSeqN ?_)
    refine qAs ?_
    repeat (first | (refine oR ?_; (conv => whnf)) | refine kOps ?_ | refine oNil ?_ | refine sSeq ?_ | refine sR ?_ | refine qSeqN ?_ | refine sBlk ?_)
    refine sC rfl (fun h1 => ?_) (fun h1 => ?_)
    · have h1 : p.st = 0 := by simpa using h1
      have e : hFind T k = -1 := by rw [← hi, if_pos h1]
      rw [e]
      repeat (first | (refine oR ?_; (conv => whnf)) | refine kOps ?_ | refine oNil ?_ | refine sSeq ?_ | refine sR ?_ | refine qSeqN ?_ | refine sRet ?_ | refine qSeqR ?_ | refine qBlkR ?_ | refine qRndR ?_)
      refine qEnd ?_
      conv => whnf
      rfl
    · have h1 : ¬ p.st = 0 := by simpa using h1
      rw [if_neg h1] at hi
      repeat (first | (refine oR ?_; (conv => whnf)) | refine kOps ?_ | refine oNil ?_ | refine sSeq ?_ | refine sR ?_ | refine qSeqN ?_)
      refine sC rfl (fun h2 => ?_) (fun h2 => ?_)
      · have h2 : p.st = 1 ∧ p.ky = k := by simpa [and_comm] using h2
        have e : hFind T k = (ix : Int) := by rw [← hi, if_pos h2]
        rw [e]
        repeat (first | (refine oR ?_; (conv => whnf)) | refine kOps ?_ | refine oNil ?_ | refine sSeq ?_ | refine sR ?_ | refine qSeqN ?_ | refine sRet ?_ | refine qSeqR ?_ | refine qBlkR ?_ | refine qRndR ?_)
        refine qEnd ?_
        conv => whnf
        rfl
      · have h2 : ¬ (p.st = 1 ∧ p.ky = k) := fun h => by simp [h.1, h.2] at h2
        rw [if_neg h2] at hi
        repeat (first | refine sSkip ?_ | refine qBlkN ?_)
        refine qRndN (.keep [(3, .ptr 0 0 0), (4, .ptr 1 0 0)] [(0, .box 3 [.int .i64 k]), (1, .box 3 [i0])] [] 2 ⟨rfl, rfl, trivial⟩ ⟨rfl, rfl, trivial⟩ rfl rfl) hi
  · have e : hFind T k = -1 := by
      rw [← hn, List.drop_eq_nil_of_le (by simp [roadL])]; rfl
    rw [e]
    repeat (first | (refine oR ?_; (conv => whnf)) | refine kOps ?_ | refine oNil ?_ | refine sSeq ?_ | refine sR ?_ | refine qSeqN ?_ | refine sRet ?_ | refine qBlkN ?_)
    refine qEnd ?_
    conv => whnf
    rfl
end Go.Proofs.Ytcfbhojpemjjpaa
