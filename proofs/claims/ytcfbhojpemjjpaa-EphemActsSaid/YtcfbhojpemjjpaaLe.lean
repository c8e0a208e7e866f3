/- The laws EphemActs, EphemOwns, EphemBack. -/
import Derived.Test.YtcfbhojpemjjpaaEp
set_option linter.unusedVariables false
set_option linter.unusedSimpArgs false
namespace Go.Proofs.Ytcfbhojpemjjpaa
open Go Go.RowKit

theorem y_set {T : List Pl} {k v : Int} (h : rightL T = true) (T' : List Pl) (o e : Int) (hs : setL T k v = (T', o, e)) : C Try.prog 38 [encT T, eI k, eI v] (.tup [encT T', eI o, eI e]) := by
  have := c_eset T k v ((rightL_iff T).1 h)
  rwa [hs] at this
theorem y_get {T : List Pl} {k : Int} (h : rightL T = true) (v e : Int) (hs : getL T k = (v, e)) : C Try.prog 40 [encT T, eI k] (.tup [eI v, eI e]) := by
  have := c_eget T k ((rightL_iff T).1 h)
  rwa [hs] at this
theorem y_wo {T : List Pl} {l : List Int} (h : rightL T = true) (hl : l.length ≤ 1099511627776) (T' : List Pl) (o : List Int) (hs : woGo l T [] = (T', o)) : C Try.prog 42 [encT T, encI l] (.tup [encT T', encI o]) := by
  have := c_ewo T l ((rightL_iff T).1 h) hl
  rwa [hs] at this
theorem y_prs {T : List Pl} (hT : T.length ≤ 1099511627776) (l : List Pr) (hs : pairsL T = l) : C Try.prog 46 [encT T] (encQ l) := hs ▸ c_prs T hT
theorem y_owned {T : List Pl} {h : Int} (hT : T.length ≤ 1099511627776) (n : Nat) (hs : ownedL T h = n) : C Try.prog 48 [encT T, eI h] (eI n) := hs ▸ c_owned T h hT
abbrev sA1 : List Pl := [pl0, pl0, pl0, pl0, pl0, pl0, ⟨1, 1, 9⟩, pl0]
abbrev sA2 : List Pl := [pl0, pl0, pl0, ⟨1, 2, 9⟩, pl0, pl0, ⟨1, 1, 9⟩, pl0]
abbrev sA3 : List Pl := [pl0, pl0, pl0, ⟨1, 2, 9⟩, pl0, pl0, ⟨2, 0, 0⟩, pl0]
abbrev sA4 : List Pl := [pl0, pl0, pl0, ⟨2, 0, 0⟩, pl0, pl0, ⟨2, 0, 0⟩, pl0]
theorem rI_enc (l : List Int) : (AV.sl (rI l)) = encI l := rfl
set_option maxRecDepth 100000 in
theorem c_shown11 : C Try.prog 36 [] (.bool true) := by
  refine fnOk mixed tyOk Try.func36 (code := Try.f36.body.getD .skip) rfl rfl rfl (gC_in ?_)
  repeat (first | (refine oR ?_; (conv => whnf)) | refine kOps ?_ | refine oNil ?_ | refine sSeq ?_ | refine sR ?_ | refine qSeqN ?_)
  (refine oCall rfl (.inl rfl) rfl rfl rfl (.fz [] _) rfl ⟨rfl, x_new sT0 (by decide +kernel), ?_⟩; (conv => whnf))
  repeat refine kOps ?_
  (refine oCall rfl (.inl rfl) rfl rfl rfl (.fz [] _) rfl ⟨rfl, y_set (by decide +kernel) sA1 0 0 (by decide +kernel), ?_⟩; (conv => whnf))
  repeat (first | (refine oR ?_; (conv => whnf)) | refine kOps ?_ | refine oNil ?_ | refine sSeq ?_ | refine sR ?_ | refine qSeqN ?_)
  (refine oCall rfl (.inl rfl) rfl rfl rfl (.fz [] _) rfl ⟨rfl, y_set (by decide +kernel) sA2 0 0 (by decide +kernel), ?_⟩; (conv => whnf))
  repeat (first | (refine oR ?_; (conv => whnf)) | refine kOps ?_ | refine oNil ?_ | refine sSeq ?_ | refine sR ?_ | refine qSeqN ?_)
  (refine oCall rfl (.inl rfl) rfl rfl rfl (.fz [] _) rfl ⟨rfl, y_set (by decide +kernel) sA3 9 0 (by decide +kernel), ?_⟩; (conv => whnf))
  repeat (first | (refine oR ?_; (conv => whnf)) | refine kOps ?_ | refine oNil ?_ | refine sSeq ?_ | refine sR ?_ | refine qSeqN ?_)
  (refine oCall rfl (.inl rfl) rfl rfl rfl (.fz [] _) rfl ⟨rfl, y_set (by decide +kernel) sA2 0 2 (by decide +kernel), ?_⟩; (conv => whnf))
  repeat (first | (refine oR ?_; (conv => whnf)) | refine kOps ?_ | refine oNil ?_ | refine sSeq ?_ | refine sR ?_ | refine qSeqN ?_)
  (refine oCall rfl (.inl rfl) rfl rfl rfl (.fz [] _) rfl ⟨rfl, y_get (by decide +kernel) 9 0 (by decide +kernel), ?_⟩; (conv => whnf))
  repeat (first | (refine oR ?_; (conv => whnf)) | refine kOps ?_ | refine oNil ?_ | refine sSeq ?_ | refine sR ?_ | refine qSeqN ?_)
  (refine oCall rfl (.inl rfl) rfl rfl rfl (.fz [0] _) rfl ⟨rfl, y_wo (l := [2, 3, 1]) (by decide +kernel) (by decide) sA4 [9, 9] (by decide +kernel), ?_⟩; (conv => whnf))
  repeat (first | (refine oR ?_; (conv => whnf)) | refine kOps ?_ | (refine oG ?_; (conv => whnf)) | refine oNil ?_ | refine sSeq ?_ | refine sR ?_ | refine qSeqN ?_ | (refine sBT ?_; (conv => whnf)))
  (refine oCall rfl (.inr ⟨_, _, _, rfl, rfl, rfl⟩) rfl rfl rfl (.fz [] _) rfl ⟨rfl, y_owned (by decide) 2 (by decide +kernel), ?_⟩; (conv => whnf))
  repeat (first | (refine oR ?_; (conv => whnf)) | refine kOps ?_ | (refine oG ?_; (conv => whnf)) | (refine sBT ?_; (conv => whnf)))
  (refine oCall rfl (.inr ⟨_, _, _, rfl, rfl, rfl⟩) rfl rfl rfl (.fz [] _) rfl ⟨rfl, y_owned (by decide) 1 (by decide +kernel), ?_⟩; (conv => whnf))
  repeat (first | (refine oR ?_; (conv => whnf)) | refine kOps ?_ | (refine oG ?_; (conv => whnf)) | (refine sBT ?_; (conv => whnf)))
  (refine oCall rfl (.inr ⟨_, _, _, rfl, rfl, rfl⟩) rfl rfl rfl (.fz [] _) rfl ⟨rfl, y_prs (by decide) [(2, 9), (1, 9)] (by decide +kernel), ?_⟩; (conv => whnf))
  repeat (first | (refine oR ?_; (conv => whnf)) | refine kOps ?_ | (refine oG ?_; (conv => whnf)) | (refine sBT ?_; (conv => whnf)))
  (refine oCall rfl (.inr ⟨_, _, _, rfl, rfl, rfl⟩) rfl rfl rfl (.fz [] _) rfl ⟨rfl, y_prs (by decide) [] (by decide +kernel), ?_⟩; (conv => whnf))
  repeat (first | (refine oR ?_; (conv => whnf)) | refine kOps ?_ | (refine oG ?_; (conv => whnf)) | refine oNil ?_ | refine qSeqN ?_ | refine sRet ?_ | (refine sBT ?_; (conv => whnf)))
  refine qEnd ?_
  conv => whnf
  rfl
theorem right11_cases (T : List Pl) : C Try.prog 35 [encT T] (.bool false) ∨ (C Try.prog 35 [encT T] (.bool true) ∧ Rt T) := by
  have := c_right11 T
  cases h : rightL T with
  | false => rw [h] at this; exact .inl this
  | true => rw [h] at this; exact .inr ⟨this, (rightL_iff T).1 h⟩
theorem setL_len (T : List Pl) (k v : Int) : (setL T k v).1.length = T.length := by
  unfold setL
  split
  · rfl
  · split
    · exact dropL_len T k
    · split
      · exact putL_len T k v
      · rfl
theorem Rt.set {T : List Pl} (h : Rt T) (k v : Int) : Rt (setL T k v).1 := by
  unfold setL
  split
  · exact h
  · split
    · exact h.drop k
    · split
      · exact h.put k v
      · exact h
theorem woGo_len2 : ∀ (l : List Int) (T : List Pl) (o : List Int), (woGo l T o).2.length ≤ o.length + l.length
  | [], T, o => by simp [woGo]
  | k :: l, T, o => by
    unfold woGo
    split
    · have := woGo_len2 l (dropL T k).1 (o ++ [‹_›])
      simp at this ⊢
      omega
    · have := woGo_len2 l T o
      simp
      omega
set_option maxRecDepth 100000 in
theorem EphemActs (T : List Pl) (key val : Int) (keys : List Int) : C Try.prog 9 [encT T, eI key, eI val, encI keys] (.bool true) := by
  refine fnOk mixed tyOk Try.func9 (code := Try.f9.body.getD .skip) rfl rfl rfl (gC_in ?_)
  repeat (first | (refine oR ?_; (conv => whnf)) | refine kOps ?_ | refine oNil ?_ | refine sSeq ?_ | refine sR ?_ | refine qSeqN ?_)
  rcases right11_cases T with hc | ⟨hc, h⟩
  · (refine oCall rfl (.inl rfl) rfl rfl rfl (.fz [] _) rfl ⟨rfl, hc, ?_⟩; (conv => whnf))
    repeat (first | (refine oR ?_; (conv => whnf)) | refine kOps ?_ | refine oH ?_ | refine oNil ?_ | refine sSeq ?_ | refine sR ?_ | refine qSeqN ?_ | refine sT ?_ | (refine sBT ?_; (conv => whnf)))
    (refine oCall rfl (.inl rfl) rfl rfl rfl (.fz [] _) rfl ⟨rfl, c_shown11, ?_⟩; (conv => whnf))
    repeat (first | (refine oR ?_; (conv => whnf)) | refine kOps ?_ | refine oNil ?_ | refine qSeqN ?_ | refine sRet ?_ | refine qSeqR ?_)
    refine qEnd ?_
    conv => whnf
    rfl
  · (refine oCall rfl (.inl rfl) rfl rfl rfl (.fz [] _) rfl ⟨rfl, hc, ?_⟩; (conv => whnf))
    repeat (first | (refine oR ?_; (conv => whnf)) | refine kOps ?_ | (refine oG ?_; (conv => whnf)) | (refine sBF ?_; (conv => whnf)))
    refine oS rfl rfl rfl (fun hl => ?_) (fun hl => ?_)
    · repeat (first | (refine oR ?_; (conv => whnf)) | refine kOps ?_ | refine oH ?_ | refine oNil ?_ | refine sSeq ?_ | refine sR ?_ | refine qSeqN ?_ | refine sT ?_ | (refine sBT ?_; (conv => whnf)))
      (refine oCall rfl (.inl rfl) rfl rfl rfl (.fz [] _) rfl ⟨rfl, c_shown11, ?_⟩; (conv => whnf))
      repeat (first | (refine oR ?_; (conv => whnf)) | refine kOps ?_ | refine oNil ?_ | refine qSeqN ?_ | refine sRet ?_ | refine qSeqR ?_)
      refine qEnd ?_
      conv => whnf
      rfl
    · have hl : keys.length ≤ 30 := by have := dF hl; simp at this; omega
      have hw := woGo_tells keys T [] h
      skip
      (refine oCall rfl (.inr ⟨_, _, _, rfl, rfl, rfl⟩) rfl rfl rfl (.fz [] _) rfl ⟨rfl, c_shown11, ?_⟩; (conv => whnf))
      repeat (first | (refine oR ?_; (conv => whnf)) | refine kOps ?_ | (refine oG ?_; (conv => whnf)) | refine oNil ?_ | refine sSeq ?_ | refine sR ?_ | refine qSeqN ?_ | refine sSkip ?_ | refine sF ?_ | (refine sBF ?_; (conv => whnf)))
      (refine oCall rfl (.inl rfl) rfl rfl rfl (.fz [] _) rfl ⟨rfl, c_its11 T h.hT, ?_⟩; (conv => whnf))
      repeat (first | (refine oR ?_; (conv => whnf)) | refine kOps ?_ | refine oNil ?_ | refine sSeq ?_ | refine sR ?_ | refine qSeqN ?_)
      (refine oCall rfl (.inl rfl) rfl rfl rfl (.fz [] _) rfl ⟨rfl, c_eset T key val h, ?_⟩; (conv => whnf))
      repeat (first | (refine oR ?_; (conv => whnf)) | refine kOps ?_ | refine oNil ?_ | refine sSeq ?_ | refine sR ?_ | refine qSeqN ?_)
      (refine oCall rfl (.inl rfl) rfl rfl rfl (.fz [] _) rfl ⟨rfl, c_set11 T key val h, ?_⟩; (conv => whnf))
      repeat (first | (refine oR ?_; (conv => whnf)) | refine kOps ?_ | refine oNil ?_ | refine sSeq ?_ | refine sR ?_ | refine qSeqN ?_)
      (refine oCall rfl (.inl rfl) rfl rfl rfl (.fz [] _) rfl ⟨rfl, c_eget T key h, ?_⟩; (conv => whnf))
      repeat (first | (refine oR ?_; (conv => whnf)) | refine kOps ?_ | refine oNil ?_ | refine sSeq ?_ | refine sR ?_ | refine qSeqN ?_)
      (refine oCall rfl (.inl rfl) rfl rfl rfl (.fz [] _) rfl ⟨rfl, c_get11 T key h, ?_⟩; (conv => whnf))
      repeat (first | (refine oR ?_; (conv => whnf)) | refine kOps ?_ | refine oNil ?_ | refine sSeq ?_ | refine sR ?_ | refine qSeqN ?_)
      (refine oCall rfl (.inl rfl) rfl rfl rfl (.fz [] _) rfl ⟨rfl, c_ewo T keys h (by omega), ?_⟩; (conv => whnf))
      repeat (first | (refine oR ?_; (conv => whnf)) | refine kOps ?_ | refine oNil ?_ | refine sSeq ?_ | refine sR ?_ | refine qSeqN ?_)
      (refine oCall rfl (.inl rfl) rfl rfl rfl (.fz [] _) rfl ⟨rfl, c_wo11 T keys h (by omega), ?_⟩; (conv => whnf))
      repeat (first | (refine oR ?_; (conv => whnf)) | refine kOps ?_ | refine oNil ?_ | refine sSeq ?_ | refine sR ?_ | refine qSeqN ?_)
      (refine oCall rfl (.inl rfl) rfl rfl rfl (.fz [] _) rfl ⟨rfl, c_its11 _ (h.set key val).hT, ?_⟩; (conv => whnf))
      repeat (first | (refine oR ?_; (conv => whnf)) | refine kOps ?_)
      (refine oCall rfl (.inl rfl) rfl rfl rfl (.fz [] _) rfl ⟨rfl, c_same _ _ (h.set key val).hT, ?_⟩; (conv => whnf))
      repeat (first | (refine oR ?_; (conv => whnf)) | refine kOps ?_)
      refine oS rfl rfl rfl (fun _ => ?_) (fun h => absurd h (by simp))
      repeat (first | (refine oR ?_; (conv => whnf)) | refine kOps ?_ | (refine oG ?_; (conv => whnf)) | (refine sBT ?_; (conv => whnf)))
      refine oS rfl rfl rfl (fun _ => ?_) (fun h => absurd h (by simp))
      repeat (first | (refine oR ?_; (conv => whnf)) | refine kOps ?_ | (refine oG ?_; (conv => whnf)) | (refine sBT ?_; (conv => whnf)))
      refine oS rfl rfl rfl (fun _ => ?_) (fun h => absurd h (by simp))
      repeat (first | (refine oR ?_; (conv => whnf)) | refine kOps ?_ | (refine oG ?_; (conv => whnf)) | (refine sBT ?_; (conv => whnf)))
      refine oS rfl rfl rfl (fun _ => ?_) (fun h => absurd h (by simp))
      repeat (first | (refine oR ?_; (conv => whnf)) | refine kOps ?_ | (refine oG ?_; (conv => whnf)) | (refine sBT ?_; (conv => whnf)))
      refine oS rfl rfl rfl (fun _ => ?_) (fun h => absurd h (by simp))
      repeat (first | refine kOps ?_ | (refine oG ?_; (conv => whnf)))
      (refine oCall rfl (.inr ⟨_, _, _, rfl, rfl, rfl⟩) rfl rfl rfl (.fz [] _) rfl ⟨rfl, c_its11 _ hw.rt.hT, ?_⟩; (conv => whnf))
      repeat (first | refine kOps ?_ | (refine oG ?_; (conv => whnf)))
      (refine oCall rfl (.inr ⟨_, _, _, rfl, rfl, rfl⟩) rfl rfl rfl (.fz [] _) rfl ⟨rfl, c_same _ _ hw.rt.hT, ?_⟩; (conv => whnf))
      repeat (first | (refine oR ?_; (conv => whnf)) | refine kOps ?_ | (refine sBT ?_; (conv => whnf)))
      refine oS rfl rfl rfl (fun _ => ?_) (fun h => absurd h (by simp))
      repeat (first | refine kOps ?_ | (refine oG ?_; (conv => whnf)))
      (refine oCall rfl (.inr ⟨_, _, _, rfl, rfl, rfl⟩) rfl rfl rfl (.fz [] _) rfl ⟨rfl, c_ints _ _ (Nat.le_trans (woGo_len2 keys T []) (by simp; omega)), ?_⟩; (conv => whnf))
      repeat (first | (refine oR ?_; (conv => whnf)) | refine kOps ?_ | (refine sBT ?_; (conv => whnf)))
      refine oS rfl rfl rfl (fun _ => ?_) (fun h => absurd h (by simp))
      repeat (first | refine kOps ?_ | (refine oG ?_; (conv => whnf)))
      (refine oCall rfl (.inr ⟨_, _, _, rfl, rfl, rfl⟩) rfl rfl rfl (.fz [] _) rfl ⟨rfl, c_prs T h.hT, ?_⟩; (conv => whnf))
      repeat refine kOps ?_
      (refine oCall rfl (.inr ⟨_, _, _, rfl, rfl, rfl⟩) rfl rfl rfl (.fz [] _) rfl ⟨rfl, c_lpairs _ (Nat.le_trans (pairsL_le T) h.hT), ?_⟩; (conv => whnf))
      repeat (first | refine kOps ?_ | (refine oG ?_; (conv => whnf)))
      (refine oCall rfl (.inr ⟨_, _, _, rfl, rfl, rfl⟩) rfl rfl rfl (.fz [] _) rfl ⟨rfl, c_pairs11 T h, ?_⟩; (conv => whnf))
      repeat refine kOps ?_
      (refine oCall rfl (.inr ⟨_, _, _, rfl, rfl, rfl⟩) rfl rfl rfl (.fz [] _) rfl ⟨rfl, c_same11 _ _ (Nat.le_trans (pairsL_le T) h.hT), ?_⟩; (conv => whnf))
      repeat (first | (refine oR ?_; (conv => whnf)) | refine kOps ?_ | (refine sBT ?_; (conv => whnf)))
      refine oS rfl rfl rfl (fun _ => ?_) (fun h => absurd h (by simp))
      repeat (first | refine kOps ?_ | (refine oG ?_; (conv => whnf)))
      (refine oCall rfl (.inr ⟨_, _, _, rfl, rfl, rfl⟩) rfl rfl rfl (.fz [] _) rfl ⟨rfl, c_owned T val h.hT, ?_⟩; (conv => whnf))
      repeat (first | refine kOps ?_ | (refine oG ?_; (conv => whnf)))
      (refine oCall rfl (.inr ⟨_, _, _, rfl, rfl, rfl⟩) rfl rfl rfl (.fz [] _) rfl ⟨rfl, c_owned11 T val h, ?_⟩; (conv => whnf))
      repeat (first | (refine oR ?_; (conv => whnf)) | refine kOps ?_ | (refine oG ?_; (conv => whnf)) | refine oNil ?_ | refine qSeqN ?_ | refine sRet ?_ | (refine sBT ?_; (conv => whnf)))
      refine qEnd ?_
      conv => whnf
      exact congrArg AV.bool (by simp)
theorem q_set {T : List Pl} (h : Rt T) {k v : Int} {T' : List Pl} {o e : Int} (hs : setL T k v = (T', o, e)) : C Try.prog 38 [encT T, eI k, eI v] (.tup [encT T', eI o, eI e]) := by
  have := c_eset T k v h
  rwa [hs] at this
theorem q_eget {T : List Pl} (h : Rt T) {k v e : Int} (hs : getL T k = (v, e)) : C Try.prog 40 [encT T, eI k] (.tup [eI v, eI e]) := by
  have := c_eget T k h
  rwa [hs] at this
theorem ownedL_le (T : List Pl) (v : Int) : ownedL T v ≤ T.length := by
  rw [ownedL_eq]; exact List.countP_le_length
set_option maxRecDepth 100000 in
theorem EphemOwns (T : List Pl) (key val : Int) : C Try.prog 10 [encT T, eI key, eI val] (.bool true) := by
  refine fnOk mixed tyOk Try.func10 (code := Try.f10.body.getD .skip) rfl rfl rfl (gC_in ?_)
  repeat (first | (refine oR ?_; (conv => whnf)) | refine kOps ?_ | refine oNil ?_ | refine sSeq ?_ | refine sR ?_ | refine qSeqN ?_)
  rcases right11_cases T with hc | ⟨hc, h⟩
  · (refine oCall rfl (.inl rfl) rfl rfl rfl (.fz [] _) rfl ⟨rfl, hc, ?_⟩; (conv => whnf))
    repeat (first | (refine oR ?_; (conv => whnf)) | refine kOps ?_ | refine oH ?_ | refine oNil ?_ | refine sSeq ?_ | refine sR ?_ | refine qSeqN ?_ | refine sT ?_ | (refine sBT ?_; (conv => whnf)))
    (refine oCall rfl (.inl rfl) rfl rfl rfl (.fz [] _) rfl ⟨rfl, c_shown11, ?_⟩; (conv => whnf))
    repeat (first | (refine oR ?_; (conv => whnf)) | refine kOps ?_ | refine oNil ?_ | refine qSeqN ?_ | refine sRet ?_ | refine qSeqR ?_)
    refine qEnd ?_
    conv => whnf
    rfl
  · (refine oCall rfl (.inl rfl) rfl rfl rfl (.fz [] _) rfl ⟨rfl, hc, ?_⟩; (conv => whnf))
    repeat (first | (refine oR ?_; (conv => whnf)) | refine kOps ?_ | (refine oG ?_; (conv => whnf)) | (refine sBF ?_; (conv => whnf)))
    refine oS rfl rfl rfl (fun hv => ?_) (fun hv => ?_)
    · repeat (first | (refine oR ?_; (conv => whnf)) | refine kOps ?_ | refine oH ?_ | refine oNil ?_ | refine sSeq ?_ | refine sR ?_ | refine qSeqN ?_ | refine sT ?_ | (refine sBT ?_; (conv => whnf)))
      (refine oCall rfl (.inl rfl) rfl rfl rfl (.fz [] _) rfl ⟨rfl, c_shown11, ?_⟩; (conv => whnf))
      repeat (first | (refine oR ?_; (conv => whnf)) | refine kOps ?_ | refine oNil ?_ | refine qSeqN ?_ | refine sRet ?_ | refine qSeqR ?_)
      refine qEnd ?_
      conv => whnf
      rfl
    · have hv : val ≠ 0 := by simpa using hv
      have hs := h.set_owns key val hv
      have hset := h.set key val
      have hle := ownedL_le T
      have hTl := h.le
      rcases he : setL T key val with ⟨A, old, e⟩
      rw [he] at hs hset
      simp only at hs hset
      skip
      (refine oCall rfl (.inr ⟨_, _, _, rfl, rfl, rfl⟩) rfl rfl rfl (.fz [] _) rfl ⟨rfl, c_shown11, ?_⟩; (conv => whnf))
      repeat (first | (refine oR ?_; (conv => whnf)) | refine kOps ?_ | (refine oG ?_; (conv => whnf)) | refine oNil ?_ | refine sSeq ?_ | refine sR ?_ | refine qSeqN ?_ | refine sSkip ?_ | refine sF ?_ | (refine sBF ?_; (conv => whnf)))
      (refine oCall rfl (.inl rfl) rfl rfl rfl (.fz [] _) rfl ⟨rfl, q_set h he, ?_⟩; (conv => whnf))
      repeat (first | (refine oR ?_; (conv => whnf)) | refine kOps ?_ | refine oNil ?_ | refine sSeq ?_ | refine sR ?_ | refine qSeqN ?_)
      rcases hs with ⟨h1, h2⟩ | ⟨rfl, h2, h3, h4⟩
      · subst h2
        refine oS rfl rfl rfl (fun h5 => ?_) (fun h5 => ?_)
        · repeat (first | (refine oR ?_; (conv => whnf)) | refine kOps ?_ | refine oH ?_ | refine oNil ?_ | refine sSeq ?_ | refine sR ?_ | refine qSeqN ?_ | refine sT ?_ | (refine sBT ?_; (conv => whnf)))
          (refine oCall rfl (.inl rfl) rfl rfl rfl (.fz [] _) rfl ⟨rfl, c_owned A val h.hT, ?_⟩; (conv => whnf))
          repeat (first | (refine oR ?_; (conv => whnf)) | refine kOps ?_)
          (refine oCall rfl (.inl rfl) rfl rfl rfl (.fz [] _) rfl ⟨rfl, c_owned A val h.hT, ?_⟩; (conv => whnf))
          repeat (first | (refine oR ?_; (conv => whnf)) | refine kOps ?_ | refine oNil ?_ | refine qSeqN ?_ | refine sRet ?_ | refine qSeqR ?_)
          refine qEnd ?_
          conv => whnf
          exact congrArg AV.bool (by simp)
        · exact absurd (by simpa using h5) h1
      · repeat (first | (refine oR ?_; (conv => whnf)) | refine kOps ?_ | (refine oG ?_; (conv => whnf)) | refine oNil ?_ | refine qSeqN ?_ | (refine sBF ?_; (conv => whnf)))
        refine sC rfl (fun h5 => ?_) (fun h5 => ?_)
        · have h5 : old = val := by simpa using h5
          repeat (first | (refine oR ?_; (conv => whnf)) | refine kOps ?_ | refine sSeq ?_ | refine sR ?_)
          (refine oCall rfl (.inl rfl) rfl rfl rfl (.fz [] _) rfl ⟨rfl, c_owned A val hset.hT, ?_⟩; (conv => whnf))
          repeat (first | (refine oR ?_; (conv => whnf)) | refine kOps ?_)
          (refine oCall rfl (.inl rfl) rfl rfl rfl (.fz [] _) rfl ⟨rfl, c_owned T val h.hT, ?_⟩; (conv => whnf))
          repeat (first | (refine oR ?_; (conv => whnf)) | refine kOps ?_ | refine oNil ?_ | refine qSeqN ?_ | refine sRet ?_ | refine qSeqR ?_)
          refine qEnd ?_
          conv => whnf
          exact congrArg AV.bool (by rw [h2 h5]; simp)
        · have h5 : old ≠ val := by simpa using h5
          have e1 : W ((ownedL T val : Int) + 1) = ((ownedL T val + 1 : Nat) : Int) := wrapS (m := 100) (by have := hle val; omega) (by omega)
          repeat (first | (refine oR ?_; (conv => whnf)) | refine kOps ?_ | refine sSeq ?_ | refine sR ?_ | refine qSeqN ?_ | refine sSkip ?_)
          (refine oCall rfl (.inl rfl) rfl rfl rfl (.fz [] _) rfl ⟨rfl, c_owned A val hset.hT, ?_⟩; (conv => whnf))
          repeat (first | (refine oR ?_; (conv => whnf)) | refine kOps ?_)
          (refine oCall rfl (.inl rfl) rfl rfl rfl (.fz [] _) rfl ⟨rfl, c_owned T val h.hT, ?_⟩; (conv => whnf))
          repeat (first | (refine oR ?_; (conv => whnf)) | refine kOps ?_)
          refine oS rfl rfl rfl (fun h6 => ?_) (fun h6 => ?_)
          · repeat (first | refine kOps ?_ | (refine oG ?_; (conv => whnf)))
            refine oS rfl rfl rfl (fun h7 => ?_) (fun h7 => ?_)
            · repeat (first | (refine oR ?_; (conv => whnf)) | refine kOps ?_ | (refine oG ?_; (conv => whnf)) | refine oH ?_ | refine oNil ?_ | refine qSeqN ?_ | refine sRet ?_ | (refine sBT ?_; (conv => whnf)))
              refine qEnd ?_
              conv => whnf
              rfl
            · have h7 : old ≠ 0 := by simpa using h7
              have h8 := h4 h5 h7
              have e2 : W ((ownedL T old : Int) - 1) = (ownedL A old : Int) := by rw [show W ((ownedL T old : Int) - 1) = (ownedL T old : Int) - 1 from wrapI (by have := hle old; omega) (by have := hle old; omega)]; omega
              repeat (first | refine kOps ?_ | (refine oG ?_; (conv => whnf)))
              (refine oCall rfl (.inr ⟨_, _, _, rfl, rfl, rfl⟩) rfl rfl rfl (.fz [] _) rfl ⟨rfl, c_owned A old hset.hT, ?_⟩; (conv => whnf))
              repeat (first | refine kOps ?_ | (refine oG ?_; (conv => whnf)))
              (refine oCall rfl (.inr ⟨_, _, _, rfl, rfl, rfl⟩) rfl rfl rfl (.fz [] _) rfl ⟨rfl, c_owned T old h.hT, ?_⟩; (conv => whnf))
              repeat (first | (refine oR ?_; (conv => whnf)) | refine kOps ?_ | (refine oG ?_; (conv => whnf)) | refine oNil ?_ | refine qSeqN ?_ | refine sRet ?_ | (refine sBT ?_; (conv => whnf)) | (refine sBF ?_; (conv => whnf)))
              refine qEnd ?_
              conv => whnf
              exact congrArg AV.bool (by rw [show IntKind.i64.wrap ((ownedL T old : Int) - 1) = _ from e2]; simp)
          · exfalso
            rw [show IntKind.i64.wrap ((ownedL T val : Int) + 1) = _ from e1, h3 h5] at h6
            simp at h6
theorem setL_put {T : List Pl} {k v : Int} (h1 : k ≠ 0) (h2 : v ≠ 0) : setL T k v = if (putL T k v).2 = 0 then ((putL T k v).1, (getL T k).1, 0) else (T, 0, 8) := by rw [setL, if_neg h1, if_neg h2]
set_option maxRecDepth 100000 in
theorem EphemBack (T : List Pl) (key a b : Int) : C Try.prog 13 [encT T, eI key, eI a, eI b] (.bool true) := by
  refine fnOk mixed tyOk Try.func13 (code := Try.f13.body.getD .skip) rfl rfl rfl (gC_in ?_)
  repeat (first | (refine oR ?_; (conv => whnf)) | refine kOps ?_ | refine oNil ?_ | refine sSeq ?_ | refine sR ?_ | refine qSeqN ?_)
  rcases right11_cases T with hc | ⟨hc, h⟩
  · (refine oCall rfl (.inl rfl) rfl rfl rfl (.fz [] _) rfl ⟨rfl, hc, ?_⟩; (conv => whnf))
    repeat (first | (refine oR ?_; (conv => whnf)) | refine kOps ?_ | refine oH ?_ | refine oNil ?_ | refine sSeq ?_ | refine sR ?_ | refine qSeqN ?_ | refine sT ?_ | (refine sBT ?_; (conv => whnf)))
    (refine oCall rfl (.inl rfl) rfl rfl rfl (.fz [] _) rfl ⟨rfl, c_shown11, ?_⟩; (conv => whnf))
    repeat (first | (refine oR ?_; (conv => whnf)) | refine kOps ?_ | refine oNil ?_ | refine qSeqN ?_ | refine sRet ?_ | refine qSeqR ?_)
    refine qEnd ?_
    conv => whnf
    rfl
  · (refine oCall rfl (.inl rfl) rfl rfl rfl (.fz [] _) rfl ⟨rfl, hc, ?_⟩; (conv => whnf))
    repeat (first | (refine oR ?_; (conv => whnf)) | refine kOps ?_ | (refine oG ?_; (conv => whnf)) | (refine sBF ?_; (conv => whnf)))
    refine oS rfl rfl rfl (fun h1 => ?_) (fun h1 => ?_)
    · repeat (first | (refine oR ?_; (conv => whnf)) | refine kOps ?_ | refine oH ?_ | refine oNil ?_ | refine sSeq ?_ | refine sR ?_ | refine qSeqN ?_ | refine sT ?_ | (refine sBT ?_; (conv => whnf)))
      (refine oCall rfl (.inl rfl) rfl rfl rfl (.fz [] _) rfl ⟨rfl, c_shown11, ?_⟩; (conv => whnf))
      repeat (first | (refine oR ?_; (conv => whnf)) | refine kOps ?_ | refine oNil ?_ | refine qSeqN ?_ | refine sRet ?_ | refine qSeqR ?_)
      refine qEnd ?_
      conv => whnf
      rfl
    · have h1 : key ≠ 0 := by simpa using h1
      repeat (first | (refine oR ?_; (conv => whnf)) | refine kOps ?_ | (refine oG ?_; (conv => whnf)) | (refine sBF ?_; (conv => whnf)))
      refine oS rfl rfl rfl (fun h2 => ?_) (fun h2 => ?_)
      · repeat (first | (refine oR ?_; (conv => whnf)) | refine kOps ?_ | refine oH ?_ | refine oNil ?_ | refine sSeq ?_ | refine sR ?_ | refine qSeqN ?_ | refine sT ?_ | (refine sBT ?_; (conv => whnf)))
        (refine oCall rfl (.inl rfl) rfl rfl rfl (.fz [] _) rfl ⟨rfl, c_shown11, ?_⟩; (conv => whnf))
        repeat (first | (refine oR ?_; (conv => whnf)) | refine kOps ?_ | refine oNil ?_ | refine qSeqN ?_ | refine sRet ?_ | refine qSeqR ?_)
        refine qEnd ?_
        conv => whnf
        rfl
      · have h2 : a ≠ 0 := by simpa using h2
        repeat (first | (refine oR ?_; (conv => whnf)) | refine kOps ?_ | (refine oG ?_; (conv => whnf)) | (refine sBF ?_; (conv => whnf)))
        refine oS rfl rfl rfl (fun h3 => ?_) (fun h3 => ?_)
        · repeat (first | (refine oR ?_; (conv => whnf)) | refine kOps ?_ | refine oH ?_ | refine oNil ?_ | refine sSeq ?_ | refine sR ?_ | refine qSeqN ?_ | refine sT ?_ | (refine sBT ?_; (conv => whnf)))
          (refine oCall rfl (.inl rfl) rfl rfl rfl (.fz [] _) rfl ⟨rfl, c_shown11, ?_⟩; (conv => whnf))
          repeat (first | (refine oR ?_; (conv => whnf)) | refine kOps ?_ | refine oNil ?_ | refine qSeqN ?_ | refine sRet ?_ | refine qSeqR ?_)
          refine qEnd ?_
          conv => whnf
          rfl
        · have h3 : b ≠ 0 := by simpa using h3
          skip
          (refine oCall rfl (.inr ⟨_, _, _, rfl, rfl, rfl⟩) rfl rfl rfl (.fz [] _) rfl ⟨rfl, c_shown11, ?_⟩; (conv => whnf))
          repeat (first | (refine oR ?_; (conv => whnf)) | refine kOps ?_ | (refine oG ?_; (conv => whnf)) | refine oNil ?_ | refine sSeq ?_ | refine sR ?_ | refine qSeqN ?_ | refine sSkip ?_ | refine sF ?_ | (refine sBF ?_; (conv => whnf)))
          have hs := setL_put (T := T) h1 h2
          rcases h.put_ok key a with ⟨h4, h5⟩ | ⟨h4, h5, h6⟩
          · obtain ⟨X, hX, hXr, hXl, hXk, hXc⟩ := h.put_ex key a h5
            rw [if_pos h4, hX] at hs
            have hXa : look X key = some a := by rw [hXk, if_pos rfl]
            obtain ⟨Z, hZ, hZr, hZl, hZk, hZc⟩ := hXr.put_ex key b (.inl (by rw [hXa]; rfl))
            have hs2 := setL_put (T := X) h1 h3
            rw [if_pos (by rw [hZ]), hZ, hXr.get_some hXa] at hs2
            have hZb : look Z key = some b := by rw [hZk, if_pos rfl]
            obtain ⟨V, hV, hVr, hVl, hVk, hVc⟩ := hZr.drop_ex hZb
            have hs3 : setL Z key 0 = (V, b, 0) := by rw [setL, if_neg h1, if_pos rfl, hV, hZr.get_some hZb]
            (refine oCall rfl (.inl rfl) rfl rfl rfl (.fz [] _) rfl ⟨rfl, q_set h hs, ?_⟩; (conv => whnf))
            repeat (first | (refine oR ?_; (conv => whnf)) | refine kOps ?_ | refine oNil ?_ | refine sSeq ?_ | refine sR ?_ | refine qSeqN ?_ | refine sSkip ?_ | refine sF ?_)
            (refine oCall rfl (.inl rfl) rfl rfl rfl (.fz [] _) rfl ⟨rfl, q_eget hXr (hXr.get_some hXa), ?_⟩; (conv => whnf))
            repeat (first | (refine oR ?_; (conv => whnf)) | refine kOps ?_ | refine oNil ?_ | refine sSeq ?_ | refine sR ?_ | refine qSeqN ?_)
            (refine oCall rfl (.inl rfl) rfl rfl rfl (.fz [] _) rfl ⟨rfl, q_set hXr hs2, ?_⟩; (conv => whnf))
            repeat (first | (refine oR ?_; (conv => whnf)) | refine kOps ?_ | refine oNil ?_ | refine sSeq ?_ | refine sR ?_ | refine qSeqN ?_)
            (refine oCall rfl (.inl rfl) rfl rfl rfl (.fz [] _) rfl ⟨rfl, q_set hZr hs3, ?_⟩; (conv => whnf))
            repeat (first | (refine oR ?_; (conv => whnf)) | refine kOps ?_ | refine oNil ?_ | refine sSeq ?_ | refine sR ?_ | refine qSeqN ?_)
            (refine oCall rfl (.inl rfl) rfl rfl rfl (.fz [] _) rfl ⟨rfl, q_eget hVr (hVr.get_none (k := key) (by rw [hVk, if_pos rfl])), ?_⟩; (conv => whnf))
            repeat (first | (refine oR ?_; (conv => whnf)) | refine kOps ?_ | refine oNil ?_ | refine sSeq ?_ | refine sR ?_ | refine qSeqN ?_)
            refine oS rfl rfl rfl (fun _ => ?_) (fun h => absurd h (by simp))
            repeat (first | (refine oR ?_; (conv => whnf)) | refine kOps ?_ | (refine oG ?_; (conv => whnf)) | (refine sBT ?_; (conv => whnf)))
            refine oS rfl rfl rfl (fun _ => ?_) (fun h => absurd h (by simp))
            repeat (first | (refine oR ?_; (conv => whnf)) | refine kOps ?_ | (refine oG ?_; (conv => whnf)) | (refine sBT ?_; (conv => whnf)))
            refine oS rfl rfl rfl (fun _ => ?_) (fun h => absurd h (by simp))
            repeat (first | (refine oR ?_; (conv => whnf)) | refine kOps ?_ | (refine oG ?_; (conv => whnf)) | refine oNil ?_ | refine qSeqN ?_ | refine sRet ?_ | (refine sBT ?_; (conv => whnf)))
            refine qEnd ?_
            conv => whnf
            rfl
          · rw [if_neg (by rw [h4]; simp)] at hs
            (refine oCall rfl (.inl rfl) rfl rfl rfl (.fz [] _) rfl ⟨rfl, q_set h hs, ?_⟩; (conv => whnf))
            repeat (first | (refine oR ?_; (conv => whnf)) | refine kOps ?_ | (refine oG ?_; (conv => whnf)) | refine oNil ?_ | refine sSeq ?_ | refine sR ?_ | refine qSeqN ?_ | refine sT ?_)
            (refine oCall rfl (.inr ⟨_, _, _, rfl, rfl, rfl⟩) rfl rfl rfl (.fz [] _) rfl ⟨rfl, c_prs T h.hT, ?_⟩; (conv => whnf))
            repeat (first | (refine oR ?_; (conv => whnf)) | refine kOps ?_ | (refine oG ?_; (conv => whnf)) | refine oNil ?_ | refine qSeqN ?_ | refine sRet ?_ | refine qSeqR ?_ | (refine sBT ?_; (conv => whnf)))
            refine qEnd ?_
            conv => whnf
            exact congrArg AV.bool (by rw [List.length_map, List.length_map, pairsL_cnt, h6]; simp)
end Go.Proofs.Ytcfbhojpemjjpaa
