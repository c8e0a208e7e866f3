/- Walks: right and shown of the tables' law. -/
import Derived.Test.YtcfbhojpemjjpaaPa
import Derived.Test.YtcfbhojpemjjpaaWf
set_option linter.unusedVariables false
set_option linter.unusedSimpArgs false
namespace Go.Proofs.Ytcfbhojpemjjpaa
open Go Go.RowKit

theorem c_right10 (T : List Pl) : C Try.prog 14 [encT T] (.bool (rightL T)) := by
  refine fnOk mixed tyOk Try.func14 (code := Try.f14.body.getD .skip) rfl rfl rfl (gC_in ?_)
  repeat (first | (refine oR ?_; (conv => whnf)) | refine kOps ?_ | refine oNil ?_ | refine sSeq ?_ | refine sR ?_ | refine qSeqN ?_)
  refine oS rfl rfl rfl (fun h => ?_) (fun h => ?_)
  · have h : T.length ≤ 8 := by have := dT h; simp at this; omega
    repeat (first | refine kOps ?_ | (refine oG ?_; (conv => whnf)))
    (refine oCall rfl (.inr ⟨_, _, _, rfl, rfl, rfl⟩) rfl rfl rfl (.fz [] _) rfl ⟨rfl, c_its10 T (by omega), ?_⟩; (conv => whnf))
    repeat refine kOps ?_
    (refine oCall rfl (.inr ⟨_, _, _, rfl, rfl, rfl⟩) rfl rfl rfl (.fz [] _) rfl ⟨rfl, c_right T (by omega), ?_⟩; (conv => whnf))
    repeat (first | (refine oR ?_; (conv => whnf)) | refine kOps ?_ | refine oNil ?_ | refine qSeqN ?_ | refine sRet ?_ | (refine sBT ?_; (conv => whnf)))
    refine qEnd ?_
    conv => whnf
    rfl
  · have h : ¬ T.length ≤ 8 := by have := dF h; simp at this; omega
    have e : rightL T = false := by rw [rightL, if_pos (by omega)]
    rw [e]
    repeat (first | (refine oR ?_; (conv => whnf)) | refine kOps ?_ | refine oH ?_ | refine oNil ?_ | refine qSeqN ?_ | refine sRet ?_ | (refine sBF ?_; (conv => whnf)))
    refine qEnd ?_
    conv => whnf
    rfl
theorem c_right11 (T : List Pl) : C Try.prog 35 [encT T] (.bool (rightL T)) := by
  refine fnOk mixed tyOk Try.func35 (code := Try.f35.body.getD .skip) rfl rfl rfl (gC_in ?_)
  repeat (first | (refine oR ?_; (conv => whnf)) | refine kOps ?_ | refine oNil ?_ | refine sSeq ?_ | refine sR ?_ | refine qSeqN ?_)
  refine oS rfl rfl rfl (fun h => ?_) (fun h => ?_)
  · have h : T.length ≤ 8 := by have := dT h; simp at this; omega
    repeat (first | refine kOps ?_ | (refine oG ?_; (conv => whnf)))
    (refine oCall rfl (.inr ⟨_, _, _, rfl, rfl, rfl⟩) rfl rfl rfl (.fz [] _) rfl ⟨rfl, c_its11 T (by omega), ?_⟩; (conv => whnf))
    repeat refine kOps ?_
    (refine oCall rfl (.inr ⟨_, _, _, rfl, rfl, rfl⟩) rfl rfl rfl (.fz [] _) rfl ⟨rfl, c_right T (by omega), ?_⟩; (conv => whnf))
    repeat (first | (refine oR ?_; (conv => whnf)) | refine kOps ?_ | refine oNil ?_ | refine qSeqN ?_ | refine sRet ?_ | (refine sBT ?_; (conv => whnf)))
    refine qEnd ?_
    conv => whnf
    rfl
  · have h : ¬ T.length ≤ 8 := by have := dF h; simp at this; omega
    have e : rightL T = false := by rw [rightL, if_pos (by omega)]
    rw [e]
    repeat (first | (refine oR ?_; (conv => whnf)) | refine kOps ?_ | refine oH ?_ | refine oNil ?_ | refine qSeqN ?_ | refine sRet ?_ | (refine sBF ?_; (conv => whnf)))
    refine qEnd ?_
    conv => whnf
    rfl
theorem x_put {T : List Pl} {k v : Int} (T' : List Pl) (e : Int) (h : putAt T (hSlot T k) k v = (T', e)) (hT : T.length ≤ 1099511627776) : C Try.prog 19 [encT T, eI k, eI v] (.tup [encT T', eI e]) := by
  have := c_hput T k v hT
  rwa [h] at this
theorem x_get {T : List Pl} {k : Int} (v e : Int) (h : getAt T (hFind T k) = (v, e)) (hT : T.length ≤ 1099511627776) : C Try.prog 17 [encT T, eI k] (.tup [eI v, eI e]) := by
  have := c_hget T k hT
  rwa [h] at this
theorem x_drop {T : List Pl} {k : Int} (T' : List Pl) (v e : Int) (h : dropAt T (hFind T k) = (T', v, e)) (hT : T.length ≤ 1099511627776) : C Try.prog 21 [encT T, eI k] (.tup [encT T', eI v, eI e]) := by
  have := c_hdrop T k hT
  rwa [h] at this
theorem x_new {n : Int} (T' : List Pl) (h : newL n = T') : C Try.prog 31 [eI n] (encT T') := h ▸ c_hnew n
theorem x_keys {T : List Pl} (l : List Int) (h : keysL T = l) (hT : T.length ≤ 1099511627776) : C Try.prog 27 [encT T] (encI l) := h ▸ c_hkeys T hT
theorem x_home {n k : Int} (m : Int) (h : homeW n k = m) : C Try.prog 29 [eI n, eI k] (eI m) := h ▸ c_home1 n k
theorem x_find {T : List Pl} {k : Int} (m : Int) (h : hFind T k = m) (hT : T.length ≤ 1099511627776) : C Try.prog 23 [encT T, eI k] (eI m) := h ▸ c_hfind T k hT
theorem x_right {T : List Pl} (b : Bool) (h : hRight T = b) (hT : T.length ≤ 1099511627776) : C Try.prog 33 [encT T] (.bool b) := h ▸ c_hright T hT
abbrev sT0 : List Pl := [pl0, pl0, pl0, pl0, pl0, pl0, pl0, pl0]
abbrev sT1 : List Pl := [pl0, ⟨1, 0, 5⟩, pl0, pl0, pl0, pl0, pl0, pl0]
abbrev sT2 : List Pl := [pl0, ⟨1, 0, 5⟩, ⟨1, 8, 6⟩, pl0, pl0, pl0, pl0, pl0]
abbrev sT3 : List Pl := [pl0, ⟨1, 0, 5⟩, ⟨1, 8, 6⟩, pl0, pl0, pl0, ⟨1, 1, 7⟩, pl0]
abbrev sT4 : List Pl := [pl0, ⟨2, 0, 0⟩, ⟨1, 8, 6⟩, pl0, pl0, pl0, ⟨1, 1, 7⟩, pl0]
abbrev sT5 : List Pl := [pl0, ⟨1, 16, 9⟩, ⟨1, 8, 6⟩, pl0, pl0, pl0, ⟨1, 1, 7⟩, pl0]
theorem c_shown10 : C Try.prog 15 [] (.bool true) := by
  refine fnOk mixed tyOk Try.func15 (code := Try.f15.body.getD .skip) rfl rfl rfl (gC_in ?_)
  repeat (first | (refine oR ?_; (conv => whnf)) | refine kOps ?_ | refine oNil ?_ | refine sSeq ?_ | refine sR ?_ | refine qSeqN ?_)
  (refine oCall rfl (.inl rfl) rfl rfl rfl (.fz [] _) rfl ⟨rfl, x_new sT0 (by decide +kernel), ?_⟩; (conv => whnf))
  repeat refine kOps ?_
  (refine oCall rfl (.inl rfl) rfl rfl rfl (.fz [] _) rfl ⟨rfl, x_put sT1 0 (by decide +kernel) (by decide), ?_⟩; (conv => whnf))
  repeat (first | (refine oR ?_; (conv => whnf)) | refine kOps ?_ | refine oNil ?_ | refine sSeq ?_ | refine sR ?_ | refine qSeqN ?_)
  (refine oCall rfl (.inl rfl) rfl rfl rfl (.fz [] _) rfl ⟨rfl, x_put sT2 0 (by decide +kernel) (by decide), ?_⟩; (conv => whnf))
  repeat (first | (refine oR ?_; (conv => whnf)) | refine kOps ?_ | refine oNil ?_ | refine sSeq ?_ | refine sR ?_ | refine qSeqN ?_)
  (refine oCall rfl (.inl rfl) rfl rfl rfl (.fz [] _) rfl ⟨rfl, x_put sT3 0 (by decide +kernel) (by decide), ?_⟩; (conv => whnf))
  repeat (first | (refine oR ?_; (conv => whnf)) | refine kOps ?_ | refine oNil ?_ | refine sSeq ?_ | refine sR ?_ | refine qSeqN ?_)
  (refine oCall rfl (.inl rfl) rfl rfl rfl (.fz [] _) rfl ⟨rfl, x_drop sT4 5 0 (by decide +kernel) (by decide), ?_⟩; (conv => whnf))
  repeat (first | (refine oR ?_; (conv => whnf)) | refine kOps ?_ | refine oNil ?_ | refine sSeq ?_ | refine sR ?_ | refine qSeqN ?_)
  (refine oCall rfl (.inl rfl) rfl rfl rfl (.fz [] _) rfl ⟨rfl, x_get 6 0 (by decide +kernel) (by decide), ?_⟩; (conv => whnf))
  repeat (first | (refine oR ?_; (conv => whnf)) | refine kOps ?_ | refine oNil ?_ | refine sSeq ?_ | refine sR ?_ | refine qSeqN ?_)
  (refine oCall rfl (.inl rfl) rfl rfl rfl (.fz [] _) rfl ⟨rfl, x_get 0 9 (by decide +kernel) (by decide), ?_⟩; (conv => whnf))
  repeat (first | (refine oR ?_; (conv => whnf)) | refine kOps ?_ | refine oNil ?_ | refine sSeq ?_ | refine sR ?_ | refine qSeqN ?_)
  (refine oCall rfl (.inl rfl) rfl rfl rfl (.fz [] _) rfl ⟨rfl, x_put sT5 0 (by decide +kernel) (by decide), ?_⟩; (conv => whnf))
  repeat (first | (refine oR ?_; (conv => whnf)) | refine kOps ?_ | refine oNil ?_ | refine sSeq ?_ | refine sR ?_ | refine qSeqN ?_)
  (refine oCall rfl (.inl rfl) rfl rfl rfl (.fz [] _) rfl ⟨rfl, x_keys [16, 8, 1] (by decide +kernel) (by decide), ?_⟩; (conv => whnf))
  repeat (first | (refine oR ?_; (conv => whnf)) | refine kOps ?_ | (refine oG ?_; (conv => whnf)) | refine oNil ?_ | refine sSeq ?_ | refine sR ?_ | refine qSeqN ?_ | (refine sBT ?_; (conv => whnf)))
  (refine oCall rfl (.inr ⟨_, _, _, rfl, rfl, rfl⟩) rfl rfl rfl (.fz [] _) rfl ⟨rfl, x_home 1 (by decide +kernel), ?_⟩; (conv => whnf))
  repeat (first | (refine oR ?_; (conv => whnf)) | refine kOps ?_ | (refine oG ?_; (conv => whnf)) | (refine sBT ?_; (conv => whnf)))
  (refine oCall rfl (.inr ⟨_, _, _, rfl, rfl, rfl⟩) rfl rfl rfl (.fz [] _) rfl ⟨rfl, x_home 6 (by decide +kernel), ?_⟩; (conv => whnf))
  repeat (first | (refine oR ?_; (conv => whnf)) | refine kOps ?_ | (refine oG ?_; (conv => whnf)) | (refine sBT ?_; (conv => whnf)))
  refine ⟨0, _, rfl, rfl, ?_⟩
  conv => whnf
  repeat (first | (refine oR ?_; (conv => whnf)) | refine kOps ?_ | (refine oG ?_; (conv => whnf)) | (refine sBT ?_; (conv => whnf)))
  refine ⟨1, _, rfl, rfl, ?_⟩
  conv => whnf
  repeat (first | (refine oR ?_; (conv => whnf)) | refine kOps ?_ | (refine oG ?_; (conv => whnf)) | (refine sBT ?_; (conv => whnf)))
  refine ⟨2, _, rfl, rfl, ?_⟩
  conv => whnf
  repeat (first | (refine oR ?_; (conv => whnf)) | refine kOps ?_ | (refine oG ?_; (conv => whnf)) | (refine sBT ?_; (conv => whnf)))
  (refine oCall rfl (.inr ⟨_, _, _, rfl, rfl, rfl⟩) rfl rfl rfl (.fz [] _) rfl ⟨rfl, x_find 2 (by decide +kernel) (by decide), ?_⟩; (conv => whnf))
  repeat (first | (refine oR ?_; (conv => whnf)) | refine kOps ?_ | (refine oG ?_; (conv => whnf)) | (refine sBT ?_; (conv => whnf)))
  (refine oCall rfl (.inr ⟨_, _, _, rfl, rfl, rfl⟩) rfl rfl rfl (.fz [] _) rfl ⟨rfl, x_right true (by decide +kernel) (by decide), ?_⟩; (conv => whnf))
  repeat (first | (refine oR ?_; (conv => whnf)) | refine kOps ?_ | (refine sBT ?_; (conv => whnf)))
  (refine oCall rfl (.inr ⟨_, _, _, rfl, rfl, rfl⟩) rfl rfl rfl (.fz [] _) rfl ⟨rfl, x_new [] (by decide +kernel), ?_⟩; (conv => whnf))
  repeat (first | (refine oR ?_; (conv => whnf)) | refine kOps ?_ | (refine oG ?_; (conv => whnf)) | refine oNil ?_ | refine qSeqN ?_ | refine sRet ?_ | (refine sBT ?_; (conv => whnf)))
  refine qEnd ?_
  conv => whnf
  rfl
end Go.Proofs.Ytcfbhojpemjjpaa
