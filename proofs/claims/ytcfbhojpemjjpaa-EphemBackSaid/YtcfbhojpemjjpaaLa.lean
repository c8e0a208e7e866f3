/- The laws HashActs, HashHomes, HashOthers. -/
import Derived.Test.YtcfbhojpemjjpaaWk
import Derived.Test.YtcfbhojpemjjpaaPb
set_option linter.unusedVariables false
set_option linter.unusedSimpArgs false
namespace Go.Proofs.Ytcfbhojpemjjpaa
open Go Go.RowKit

theorem r_find {T : List Pl} (h : Rt T) (k : Int) : C Try.prog 23 [encT T, eI k] (eI (findL T k)) := h.find k ▸ c_hfind T k h.hT
theorem r_get {T : List Pl} (h : Rt T) (k : Int) : C Try.prog 17 [encT T, eI k] (eGet (getL T k)) := by
  have := c_hget T k h.hT
  rwa [h.find k] at this
theorem r_put {T : List Pl} (h : Rt T) (k v : Int) : C Try.prog 19 [encT T, eI k, eI v] (ePut (putL T k v)) := by
  have := c_hput T k v h.hT
  rwa [h.slot k] at this
theorem r_drop {T : List Pl} (h : Rt T) (k : Int) : C Try.prog 21 [encT T, eI k] (eDrop (dropL T k)) := by
  have := c_hdrop T k h.hT
  rwa [h.find k] at this
theorem q_put {T T2 : List Pl} {k v e : Int} (h : Rt T) (hp : putL T k v = (T2, e)) : C Try.prog 19 [encT T, eI k, eI v] (.tup [encT T2, eI e]) := by
  have := r_put h k v
  rwa [hp] at this
theorem q_drop {T T2 : List Pl} {k v e : Int} (h : Rt T) (hp : dropL T k = (T2, v, e)) : C Try.prog 21 [encT T, eI k] (.tup [encT T2, eI v, eI e]) := by
  have := r_drop h k
  rwa [hp] at this
theorem q_get {T : List Pl} {k v e : Int} (h : Rt T) (hp : getL T k = (v, e)) : C Try.prog 17 [encT T, eI k] (.tup [eI v, eI e]) := by
  have := r_get h k
  rwa [hp] at this
theorem r_ok {T : List Pl} (h : Rt T) : C Try.prog 14 [encT T] (.bool true) := (rightL_iff T).2 h ▸ c_right10 T
theorem right_cases (T : List Pl) : C Try.prog 14 [encT T] (.bool false) ∨ (C Try.prog 14 [encT T] (.bool true) ∧ Rt T) := by
  have := c_right10 T
  cases h : rightL T with
  | false => rw [h] at this; exact .inl this
  | true => rw [h] at this; exact .inr ⟨this, (rightL_iff T).1 h⟩
set_option maxRecDepth 100000 in
theorem HashActs (T : List Pl) (k v : Int) : C Try.prog 3 [encT T, eI k, eI v] (.bool true) := by
  refine fnOk mixed tyOk Try.func3 (code := Try.f3.body.getD .skip) rfl rfl rfl (gC_in ?_)
  repeat (first | (refine oR ?_; (conv => whnf)) | refine kOps ?_ | refine oNil ?_ | refine sSeq ?_ | refine sR ?_ | refine qSeqN ?_)
  rcases right_cases T with hc | ⟨hc, h⟩
  · (refine oCall rfl (.inl rfl) rfl rfl rfl (.fz [] _) rfl ⟨rfl, hc, ?_⟩; (conv => whnf))
    repeat (first | (refine oR ?_; (conv => whnf)) | refine kOps ?_ | refine oH ?_ | refine oNil ?_ | refine sSeq ?_ | refine sR ?_ | refine qSeqN ?_ | refine sT ?_ | (refine sBT ?_; (conv => whnf)))
    (refine oCall rfl (.inl rfl) rfl rfl rfl (.fz [] _) rfl ⟨rfl, c_shown10, ?_⟩; (conv => whnf))
    repeat (first | (refine oR ?_; (conv => whnf)) | refine kOps ?_ | refine oNil ?_ | refine qSeqN ?_ | refine sRet ?_ | refine qSeqR ?_)
    refine qEnd ?_
    conv => whnf
    rfl
  · (refine oCall rfl (.inl rfl) rfl rfl rfl (.fz [] _) rfl ⟨rfl, hc, ?_⟩; (conv => whnf))
    repeat (first | (refine oR ?_; (conv => whnf)) | refine kOps ?_)
    (refine oCall rfl (.inr ⟨_, _, _, rfl, rfl, rfl⟩) rfl rfl rfl (.fz [] _) rfl ⟨rfl, c_shown10, ?_⟩; (conv => whnf))
    repeat (first | (refine oR ?_; (conv => whnf)) | refine kOps ?_ | (refine oG ?_; (conv => whnf)) | refine oNil ?_ | refine sSeq ?_ | refine sR ?_ | refine qSeqN ?_ | refine sSkip ?_ | refine sF ?_ | (refine sBF ?_; (conv => whnf)))
    (refine oCall rfl (.inl rfl) rfl rfl rfl (.fz [] _) rfl ⟨rfl, c_its10 T h.hT, ?_⟩; (conv => whnf))
    repeat (first | (refine oR ?_; (conv => whnf)) | refine kOps ?_ | refine oNil ?_ | refine sSeq ?_ | refine sR ?_ | refine qSeqN ?_)
    (refine oCall rfl (.inl rfl) rfl rfl rfl (.fz [] _) rfl ⟨rfl, r_get h k, ?_⟩; (conv => whnf))
    repeat (first | (refine oR ?_; (conv => whnf)) | refine kOps ?_ | refine oNil ?_ | refine sSeq ?_ | refine sR ?_ | refine qSeqN ?_)
    (refine oCall rfl (.inl rfl) rfl rfl rfl (.fz [] _) rfl ⟨rfl, c_get T k h.hT, ?_⟩; (conv => whnf))
    repeat (first | (refine oR ?_; (conv => whnf)) | refine kOps ?_ | refine oNil ?_ | refine sSeq ?_ | refine sR ?_ | refine qSeqN ?_)
    (refine oCall rfl (.inl rfl) rfl rfl rfl (.fz [] _) rfl ⟨rfl, r_put h k v, ?_⟩; (conv => whnf))
    repeat (first | (refine oR ?_; (conv => whnf)) | refine kOps ?_ | refine oNil ?_ | refine sSeq ?_ | refine sR ?_ | refine qSeqN ?_)
    (refine oCall rfl (.inl rfl) rfl rfl rfl (.fz [] _) rfl ⟨rfl, c_put T k v h.hT, ?_⟩; (conv => whnf))
    repeat (first | (refine oR ?_; (conv => whnf)) | refine kOps ?_ | refine oNil ?_ | refine sSeq ?_ | refine sR ?_ | refine qSeqN ?_)
    (refine oCall rfl (.inl rfl) rfl rfl rfl (.fz [] _) rfl ⟨rfl, r_drop h k, ?_⟩; (conv => whnf))
    repeat (first | (refine oR ?_; (conv => whnf)) | refine kOps ?_ | refine oNil ?_ | refine sSeq ?_ | refine sR ?_ | refine qSeqN ?_)
    (refine oCall rfl (.inl rfl) rfl rfl rfl (.fz [] _) rfl ⟨rfl, c_drop T k h.hT, ?_⟩; (conv => whnf))
    repeat (first | (refine oR ?_; (conv => whnf)) | refine kOps ?_ | refine oNil ?_ | refine sSeq ?_ | refine sR ?_ | refine qSeqN ?_)
    (refine oCall rfl (.inl rfl) rfl rfl rfl (.fz [] _) rfl ⟨rfl, r_find h k, ?_⟩; (conv => whnf))
    repeat (first | (refine oR ?_; (conv => whnf)) | refine kOps ?_)
    (refine oCall rfl (.inl rfl) rfl rfl rfl (.fz [] _) rfl ⟨rfl, c_find T k h.hT, ?_⟩; (conv => whnf))
    repeat (first | (refine oR ?_; (conv => whnf)) | refine kOps ?_)
    refine oS rfl rfl rfl (fun _ => ?_) (fun h => absurd h (by simp))
    repeat (first | (refine oR ?_; (conv => whnf)) | refine kOps ?_ | (refine oG ?_; (conv => whnf)) | (refine sBT ?_; (conv => whnf)))
    refine oS rfl rfl rfl (fun _ => ?_) (fun h => absurd h (by simp))
    repeat (first | (refine oR ?_; (conv => whnf)) | refine kOps ?_ | (refine oG ?_; (conv => whnf)) | (refine sBT ?_; (conv => whnf)))
    refine oS rfl rfl rfl (fun _ => ?_) (fun h => absurd h (by simp))
    repeat (first | refine kOps ?_ | (refine oG ?_; (conv => whnf)))
    (refine oCall rfl (.inr ⟨_, _, _, rfl, rfl, rfl⟩) rfl rfl rfl (.fz [] _) rfl ⟨rfl, c_its10 (putL T k v).1 (h.put k v).hT, ?_⟩; (conv => whnf))
    repeat (first | refine kOps ?_ | (refine oG ?_; (conv => whnf)))
    (refine oCall rfl (.inr ⟨_, _, _, rfl, rfl, rfl⟩) rfl rfl rfl (.fz [] _) rfl ⟨rfl, c_same _ _ (h.put k v).hT, ?_⟩; (conv => whnf))
    repeat (first | (refine oR ?_; (conv => whnf)) | refine kOps ?_ | (refine sBT ?_; (conv => whnf)))
    refine oS rfl rfl rfl (fun _ => ?_) (fun h => absurd h (by simp))
    repeat (first | (refine oR ?_; (conv => whnf)) | refine kOps ?_ | (refine oG ?_; (conv => whnf)) | (refine sBT ?_; (conv => whnf)))
    refine oS rfl rfl rfl (fun _ => ?_) (fun h => absurd h (by simp))
    repeat (first | refine kOps ?_ | (refine oG ?_; (conv => whnf)))
    (refine oCall rfl (.inr ⟨_, _, _, rfl, rfl, rfl⟩) rfl rfl rfl (.fz [] _) rfl ⟨rfl, c_its10 (dropL T k).1 (h.drop k).hT, ?_⟩; (conv => whnf))
    repeat (first | refine kOps ?_ | (refine oG ?_; (conv => whnf)))
    (refine oCall rfl (.inr ⟨_, _, _, rfl, rfl, rfl⟩) rfl rfl rfl (.fz [] _) rfl ⟨rfl, c_same _ _ (h.drop k).hT, ?_⟩; (conv => whnf))
    repeat (first | (refine oR ?_; (conv => whnf)) | refine kOps ?_ | (refine sBT ?_; (conv => whnf)))
    refine oS rfl rfl rfl (fun _ => ?_) (fun h => absurd h (by simp))
    repeat (first | (refine oR ?_; (conv => whnf)) | refine kOps ?_ | (refine oG ?_; (conv => whnf)) | (refine sBT ?_; (conv => whnf)))
    refine oS rfl rfl rfl (fun _ => ?_) (fun h => absurd h (by simp))
    repeat (first | (refine oR ?_; (conv => whnf)) | refine kOps ?_ | (refine oG ?_; (conv => whnf)) | (refine sBT ?_; (conv => whnf)))
    refine oS rfl rfl rfl (fun _ => ?_) (fun h => absurd h (by simp))
    repeat (first | refine kOps ?_ | (refine oG ?_; (conv => whnf)))
    (refine oCall rfl (.inr ⟨_, _, _, rfl, rfl, rfl⟩) rfl rfl rfl (.fz [] _) rfl ⟨rfl, c_hkeys T h.hT, ?_⟩; (conv => whnf))
    repeat (first | refine kOps ?_ | (refine oG ?_; (conv => whnf)))
    (refine oCall rfl (.inr ⟨_, _, _, rfl, rfl, rfl⟩) rfl rfl rfl (.fz [] _) rfl ⟨rfl, c_keys T h.hT, ?_⟩; (conv => whnf))
    repeat refine kOps ?_
    (refine oCall rfl (.inr ⟨_, _, _, rfl, rfl, rfl⟩) rfl rfl rfl (.fz [] _) rfl ⟨rfl, c_ints _ _ (Nat.le_trans (keysL_le T) h.hT), ?_⟩; (conv => whnf))
    repeat (first | (refine oR ?_; (conv => whnf)) | refine kOps ?_ | refine oNil ?_ | refine qSeqN ?_ | refine sRet ?_ | (refine sBT ?_; (conv => whnf)))
    refine qEnd ?_
    conv => whnf
    exact congrArg AV.bool (decide_eq_true rfl)
theorem c_hnew_len (n : Int) : (newL n).length ≤ 1099511627776 := by
  unfold newL
  split
  · simp
  · rw [List.length_replicate]; omega
set_option maxRecDepth 100000 in
theorem HashHomes (n k : Int) (T : List Pl) : C Try.prog 4 [eI n, eI k, encT T] (.bool true) := by
  refine fnOk mixed tyOk Try.func4 (code := Try.f4.body.getD .skip) rfl rfl rfl (gC_in ?_)
  repeat (first | (refine oR ?_; (conv => whnf)) | refine kOps ?_ | refine oNil ?_ | refine sSeq ?_ | refine sR ?_ | refine qSeqN ?_)
  refine oS rfl rfl rfl (fun h => ?_) (fun h => ?_)
  · repeat (first | (refine oR ?_; (conv => whnf)) | refine kOps ?_ | refine oH ?_ | refine oNil ?_ | refine sSeq ?_ | refine sR ?_ | refine qSeqN ?_ | refine sT ?_ | (refine sBT ?_; (conv => whnf)))
    (refine oCall rfl (.inl rfl) rfl rfl rfl (.fz [] _) rfl ⟨rfl, c_shown10, ?_⟩; (conv => whnf))
    repeat (first | (refine oR ?_; (conv => whnf)) | refine kOps ?_ | refine oNil ?_ | refine qSeqN ?_ | refine sRet ?_ | refine qSeqR ?_)
    refine qEnd ?_
    conv => whnf
    rfl
  · have h : T.length ≤ 20 := by have := dF h; simp at this; omega
    skip
    (refine oCall rfl (.inr ⟨_, _, _, rfl, rfl, rfl⟩) rfl rfl rfl (.fz [] _) rfl ⟨rfl, c_shown10, ?_⟩; (conv => whnf))
    repeat (first | (refine oR ?_; (conv => whnf)) | refine kOps ?_ | (refine oG ?_; (conv => whnf)) | refine oNil ?_ | refine sSeq ?_ | refine sR ?_ | refine qSeqN ?_ | refine sSkip ?_ | refine sF ?_ | (refine sBF ?_; (conv => whnf)))
    (refine oCall rfl (.inl rfl) rfl rfl rfl (.fz [] _) rfl ⟨rfl, c_home1 n k, ?_⟩; (conv => whnf))
    repeat (first | (refine oR ?_; (conv => whnf)) | refine kOps ?_)
    (refine oCall rfl (.inl rfl) rfl rfl rfl (.fz [] _) rfl ⟨rfl, c_home2 n k, ?_⟩; (conv => whnf))
    repeat (first | (refine oR ?_; (conv => whnf)) | refine kOps ?_)
    refine oS rfl rfl rfl (fun _ => ?_) (fun h => absurd h (by simp))
    repeat (first | refine kOps ?_ | (refine oG ?_; (conv => whnf)))
    (refine oCall rfl (.inr ⟨_, _, _, rfl, rfl, rfl⟩) rfl rfl rfl (.fz [] _) rfl ⟨rfl, c_hnew n, ?_⟩; (conv => whnf))
    repeat refine kOps ?_
    (refine oCall rfl (.inr ⟨_, _, _, rfl, rfl, rfl⟩) rfl rfl rfl (.fz [] _) rfl ⟨rfl, c_its10 _ (c_hnew_len n), ?_⟩; (conv => whnf))
    repeat (first | refine kOps ?_ | (refine oG ?_; (conv => whnf)))
    (refine oCall rfl (.inr ⟨_, _, _, rfl, rfl, rfl⟩) rfl rfl rfl (.fz [] _) rfl ⟨rfl, c_new n, ?_⟩; (conv => whnf))
    repeat refine kOps ?_
    (refine oCall rfl (.inr ⟨_, _, _, rfl, rfl, rfl⟩) rfl rfl rfl (.fz [] _) rfl ⟨rfl, c_same _ _ (c_hnew_len n), ?_⟩; (conv => whnf))
    repeat (first | (refine oR ?_; (conv => whnf)) | refine kOps ?_ | (refine sBT ?_; (conv => whnf)))
    refine oS rfl rfl rfl (fun _ => ?_) (fun h => absurd h (by simp))
    repeat (first | refine kOps ?_ | (refine oG ?_; (conv => whnf)))
    (refine oCall rfl (.inr ⟨_, _, _, rfl, rfl, rfl⟩) rfl rfl rfl (.fz [] _) rfl ⟨rfl, c_hright T (by omega), ?_⟩; (conv => whnf))
    repeat (first | refine kOps ?_ | (refine oG ?_; (conv => whnf)))
    (refine oCall rfl (.inr ⟨_, _, _, rfl, rfl, rfl⟩) rfl rfl rfl (.fz [] _) rfl ⟨rfl, c_its10 T (by omega), ?_⟩; (conv => whnf))
    repeat refine kOps ?_
    (refine oCall rfl (.inr ⟨_, _, _, rfl, rfl, rfl⟩) rfl rfl rfl (.fz [] _) rfl ⟨rfl, c_right T (by omega), ?_⟩; (conv => whnf))
    repeat (first | (refine oR ?_; (conv => whnf)) | refine kOps ?_ | (refine oG ?_; (conv => whnf)) | refine oNil ?_ | refine qSeqN ?_ | refine sRet ?_ | (refine sBT ?_; (conv => whnf)))
    refine qEnd ?_
    conv => whnf
    exact congrArg AV.bool (by rw [hRight_eq]; simp)
set_option maxRecDepth 100000 in
theorem HashOthers (T : List Pl) (k v other : Int) : C Try.prog 7 [encT T, eI k, eI v, eI other] (.bool true) := by
  refine fnOk mixed tyOk Try.func7 (code := Try.f7.body.getD .skip) rfl rfl rfl (gC_in ?_)
  repeat (first | (refine oR ?_; (conv => whnf)) | refine kOps ?_ | refine oNil ?_ | refine sSeq ?_ | refine sR ?_ | refine qSeqN ?_)
  rcases right_cases T with hc | ⟨hc, h⟩
  · (refine oCall rfl (.inl rfl) rfl rfl rfl (.fz [] _) rfl ⟨rfl, hc, ?_⟩; (conv => whnf))
    repeat (first | (refine oR ?_; (conv => whnf)) | refine kOps ?_ | refine oH ?_ | refine oNil ?_ | refine sSeq ?_ | refine sR ?_ | refine qSeqN ?_ | refine sT ?_ | (refine sBT ?_; (conv => whnf)))
    (refine oCall rfl (.inl rfl) rfl rfl rfl (.fz [] _) rfl ⟨rfl, c_shown10, ?_⟩; (conv => whnf))
    repeat (first | (refine oR ?_; (conv => whnf)) | refine kOps ?_ | refine oNil ?_ | refine qSeqN ?_ | refine sRet ?_ | refine qSeqR ?_)
    refine qEnd ?_
    conv => whnf
    rfl
  · (refine oCall rfl (.inl rfl) rfl rfl rfl (.fz [] _) rfl ⟨rfl, hc, ?_⟩; (conv => whnf))
    repeat (first | (refine oR ?_; (conv => whnf)) | refine kOps ?_ | (refine oG ?_; (conv => whnf)) | (refine sBF ?_; (conv => whnf)))
    refine oS rfl rfl rfl (fun hk => ?_) (fun hk => ?_)
    · repeat (first | (refine oR ?_; (conv => whnf)) | refine kOps ?_ | refine oH ?_ | refine oNil ?_ | refine sSeq ?_ | refine sR ?_ | refine qSeqN ?_ | refine sT ?_ | (refine sBT ?_; (conv => whnf)))
      (refine oCall rfl (.inl rfl) rfl rfl rfl (.fz [] _) rfl ⟨rfl, c_shown10, ?_⟩; (conv => whnf))
      repeat (first | (refine oR ?_; (conv => whnf)) | refine kOps ?_ | refine oNil ?_ | refine qSeqN ?_ | refine sRet ?_ | refine qSeqR ?_)
      refine qEnd ?_
      conv => whnf
      rfl
    · have hk : ¬ other = k := fun he => by simp [he] at hk
      skip
      (refine oCall rfl (.inr ⟨_, _, _, rfl, rfl, rfl⟩) rfl rfl rfl (.fz [] _) rfl ⟨rfl, c_shown10, ?_⟩; (conv => whnf))
      repeat (first | (refine oR ?_; (conv => whnf)) | refine kOps ?_ | (refine oG ?_; (conv => whnf)) | refine oNil ?_ | refine sSeq ?_ | refine sR ?_ | refine qSeqN ?_ | refine sSkip ?_ | refine sF ?_ | (refine sBF ?_; (conv => whnf)))
      have e1 : getL (putL T k v).1 other = getL T other := by
        rw [h.get, (h.put k v).get]
        rcases h.put_ok k v with ⟨h1, _⟩ | ⟨h1, _⟩
        · rw [h.look_put k v other h1, if_neg hk]
        · rw [h1]
      have e2 : getL (dropL T k).1 other = getL T other := by
        rw [h.get, (h.drop k).get, h.look_drop, if_neg hk]
      have c1 := r_get (h.put k v) other
      have c2 := r_get (h.drop k) other
      rw [e1] at c1
      rw [e2] at c2
      (refine oCall rfl (.inl rfl) rfl rfl rfl (.fz [] _) rfl ⟨rfl, r_get h other, ?_⟩; (conv => whnf))
      repeat (first | (refine oR ?_; (conv => whnf)) | refine kOps ?_ | refine oNil ?_ | refine sSeq ?_ | refine sR ?_ | refine qSeqN ?_)
      (refine oCall rfl (.inl rfl) rfl rfl rfl (.fz [] _) rfl ⟨rfl, r_put h k v, ?_⟩; (conv => whnf))
      repeat (first | (refine oR ?_; (conv => whnf)) | refine kOps ?_ | refine oNil ?_ | refine sSeq ?_ | refine sR ?_ | refine qSeqN ?_)
      (refine oCall rfl (.inl rfl) rfl rfl rfl (.fz [] _) rfl ⟨rfl, r_drop h k, ?_⟩; (conv => whnf))
      repeat (first | (refine oR ?_; (conv => whnf)) | refine kOps ?_ | refine oNil ?_ | refine sSeq ?_ | refine sR ?_ | refine qSeqN ?_)
      (refine oCall rfl (.inl rfl) rfl rfl rfl (.fz [] _) rfl ⟨rfl, c1, ?_⟩; (conv => whnf))
      repeat (first | (refine oR ?_; (conv => whnf)) | refine kOps ?_ | refine oNil ?_ | refine sSeq ?_ | refine sR ?_ | refine qSeqN ?_)
      (refine oCall rfl (.inl rfl) rfl rfl rfl (.fz [] _) rfl ⟨rfl, c2, ?_⟩; (conv => whnf))
      repeat (first | (refine oR ?_; (conv => whnf)) | refine kOps ?_ | refine oNil ?_ | refine sSeq ?_ | refine sR ?_ | refine qSeqN ?_)
      refine oS rfl rfl rfl (fun _ => ?_) (fun h => absurd h (by simp))
      repeat (first | (refine oR ?_; (conv => whnf)) | refine kOps ?_ | (refine oG ?_; (conv => whnf)) | (refine sBT ?_; (conv => whnf)))
      refine oS rfl rfl rfl (fun _ => ?_) (fun h => absurd h (by simp))
      repeat (first | (refine oR ?_; (conv => whnf)) | refine kOps ?_ | (refine oG ?_; (conv => whnf)) | (refine sBT ?_; (conv => whnf)))
      refine oS rfl rfl rfl (fun _ => ?_) (fun h => absurd h (by simp))
      repeat (first | (refine oR ?_; (conv => whnf)) | refine kOps ?_ | (refine oG ?_; (conv => whnf)) | refine oNil ?_ | refine qSeqN ?_ | refine sRet ?_ | (refine sBT ?_; (conv => whnf)))
      refine qEnd ?_
      conv => whnf
      exact congrArg AV.bool (by simp)
end Go.Proofs.Ytcfbhojpemjjpaa
