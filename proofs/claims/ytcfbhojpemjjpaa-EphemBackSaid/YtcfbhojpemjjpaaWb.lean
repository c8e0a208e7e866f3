/- Walks: homes, clones. -/
import Derived.Test.YtcfbhojpemjjpaaSp
set_option linter.unusedVariables false
set_option linter.unusedSimpArgs false
namespace Go.Proofs.Ytcfbhojpemjjpaa
open Go Go.RowKit

theorem c_home1 (n k : Int) : C Try.prog 29 [.int .i64 n, .int .i64 k] (.int .i64 (homeW n k)) := by
  refine fnOk mixed tyOk Try.func29 (code := Try.f29.body.getD .skip) rfl rfl rfl (gC_in ?_)
  repeat (first | (refine oR ?_; (conv => whnf)) | refine kOps ?_ | refine oNil ?_ | refine sSeq ?_ | refine sR ?_ | refine qSeqN ?_)
  refine sC rfl (fun h1 => ?_) (fun h1 => ?_)
  · have e : homeW n k = 0 := by simp [homeW, dT h1]
    rw [e]
    repeat (first | (refine oR ?_; (conv => whnf)) | refine kOps ?_ | refine oNil ?_ | refine sSeq ?_ | refine sR ?_ | refine qSeqN ?_ | refine sRet ?_ | refine qSeqR ?_)
    refine qEnd ?_
    conv => whnf
    rfl
  · have h1' := dF h1
    repeat (first | (refine oR ?_; (conv => whnf)) | refine kOps ?_ | refine sSeq ?_ | refine sR ?_ | refine qSeqN ?_ | refine sSkip ?_)
    refine ⟨by omega, ?_⟩
    repeat (first | (refine oR ?_; (conv => whnf)) | refine kOps ?_ | refine oNil ?_ | refine sSeq ?_ | refine sR ?_ | refine qSeqN ?_)
    refine sC rfl (fun h2 => ?_) (fun h2 => ?_)
    · have e : homeW n k = W ((W (W (5 * k) + 1)).tmod n + n) := by rw [homeW, if_neg h1', if_pos (dT h2)]
      rw [e]
      repeat (first | (refine oR ?_; (conv => whnf)) | refine kOps ?_ | refine oNil ?_ | refine sSeq ?_ | refine sR ?_ | refine qSeqN ?_ | refine sRet ?_)
      refine qEnd ?_
      conv => whnf
      rfl
    · have e : homeW n k = (W (W (5 * k) + 1)).tmod n := by rw [homeW, if_neg h1', if_neg (dF h2)]
      rw [e]
      repeat (first | (refine oR ?_; (conv => whnf)) | refine kOps ?_ | refine oNil ?_ | refine sSeq ?_ | refine sR ?_ | refine qSeqN ?_ | refine sSkip ?_ | refine sRet ?_)
      refine qEnd ?_
      conv => whnf
      rfl
theorem c_home2 (n k : Int) : C Try.prog 30 [.int .i64 n, .int .i64 k] (.int .i64 (homeW n k)) := by
  refine fnOk mixed tyOk Try.func30 (code := Try.f30.body.getD .skip) rfl rfl rfl (gC_in ?_)
  repeat (first | (refine oR ?_; (conv => whnf)) | refine kOps ?_ | refine oNil ?_ | refine sSeq ?_ | refine sR ?_ | refine qSeqN ?_)
  refine sC rfl (fun h1 => ?_) (fun h1 => ?_)
  · have e : homeW n k = 0 := by have := dT h1; simp [homeW, show n ≤ 0 by omega]
    rw [e]
    repeat (first | (refine oR ?_; (conv => whnf)) | refine kOps ?_ | refine oNil ?_ | refine sSeq ?_ | refine sR ?_ | refine qSeqN ?_ | refine sRet ?_ | refine qSeqR ?_)
    refine qEnd ?_
    conv => whnf
    rfl
  · have h1' : ¬ n ≤ 0 := by have := dF h1; omega
    repeat (first | (refine oR ?_; (conv => whnf)) | refine kOps ?_ | refine sSeq ?_ | refine sR ?_ | refine qSeqN ?_ | refine sSkip ?_)
    refine ⟨by omega, ?_⟩
    repeat (first | (refine oR ?_; (conv => whnf)) | refine kOps ?_ | refine oNil ?_ | refine sSeq ?_ | refine sR ?_ | refine qSeqN ?_)
    refine sC rfl (fun h2 => ?_) (fun h2 => ?_)
    · have e : homeW n k = W ((W (W (5 * k) + 1)).tmod n + n) := by rw [homeW, if_neg h1', if_pos (dT h2)]
      rw [e]
      repeat (first | (refine oR ?_; (conv => whnf)) | refine kOps ?_ | refine oNil ?_ | refine sSeq ?_ | refine sR ?_ | refine qSeqN ?_ | refine sRet ?_)
      refine qEnd ?_
      conv => whnf
      rfl
    · have e : homeW n k = (W (W (5 * k) + 1)).tmod n := by rw [homeW, if_neg h1', if_neg (dF h2)]
      rw [e]
      repeat (first | (refine oR ?_; (conv => whnf)) | refine kOps ?_ | refine oNil ?_ | refine sSeq ?_ | refine sR ?_ | refine qSeqN ?_ | refine sSkip ?_ | refine sRet ?_)
      refine qEnd ?_
      conv => whnf
      rfl
theorem ones3 (T : List Pl) : ∀ y ∈ T.map Pl.enc, y.length = 3 ∧ y.all oneC = true := fun y hy => by
  obtain ⟨p, _, rfl⟩ := List.mem_map.1 hy
  exact ⟨rfl, rfl⟩
theorem c_clone (T : List Pl) (hT : T.length ≤ 1099511627776) : C Try.prog 62 [encT T] (encT T) := by
  refine fnOk mixed tyOk Try.func62 (code := Try.f62.body.getD .skip) rfl rfl rfl (gC_in ?_)
  repeat (first | (refine oR ?_; (conv => whnf)) | refine kOps ?_ | refine oNil ?_ | refine sSeq ?_ | refine sR ?_ | refine qSeqN ?_)
  intro b hb
  repeat (first | refine kOps ?_ | refine oNil ?_ | refine qSeqN ?_)
  refine sC rfl (fun h1 => ?_) (fun h1 => ?_)
  · have e : T = [] := by
      cases T with
      | nil => rfl
      | cons p T => exact absurd (hb (by simp)) (by simp [h1])
    rw [e]
    repeat (first | (refine oR ?_; (conv => whnf)) | refine kOps ?_ | refine oNil ?_ | refine sSeq ?_ | refine sR ?_ | refine qSeqN ?_ | refine sRet ?_ | refine qSeqR ?_)
    refine qEnd ?_
    conv => whnf
    rfl
  · repeat (first | (refine oR ?_; (conv => whnf)) | refine kOps ?_ | refine sSeq ?_ | refine sR ?_ | refine qSeqN ?_ | refine sSkip ?_)
    refine ⟨ones3 T, ⟨by decide, by show (0 + (T.map Pl.enc).length) * 24 ≤ _; rw [List.length_map]; omega⟩, ?_⟩
    repeat (first | (refine oR ?_; (conv => whnf)) | refine kOps ?_ | refine oNil ?_ | refine qSeqN ?_ | refine sRet ?_)
    refine qEnd ?_
    conv => whnf
    rfl
theorem c_cloneR (T : List Pl) (hT : T.length ≤ 1099511627776) : CR Try.prog 62 [encT T] 78 3 (T.map Pl.enc) := by
  refine fnOkR mixed tyOk Try.func62 (code := Try.f62.body.getD .skip) rfl rfl rfl (gC_in ?_)
  repeat (first | (refine oR ?_; (conv => whnf)) | refine kOps ?_ | refine oNil ?_ | refine sSeq ?_ | refine sR ?_ | refine qSeqN ?_)
  intro b hb
  repeat (first | refine kOps ?_ | refine oNil ?_ | refine qSeqN ?_)
  refine sC rfl (fun h1 => ?_) (fun h1 => ?_)
  · have e : T = [] := by
      cases T with
      | nil => rfl
      | cons p T => exact absurd (hb (by simp)) (by simp [h1])
    rw [e]
    repeat (first | (refine oR ?_; (conv => whnf)) | refine kOps ?_ | refine oNil ?_ | refine sSeq ?_ | refine sR ?_ | refine qSeqN ?_ | refine sRet ?_ | refine qSeqR ?_)
    refine qEndR ⟨_, .adopt 2 0 78 3 rfl rfl (by decide), ?_⟩
    conv => whnf
    exact ⟨0, rfl, rfl⟩
  · repeat (first | (refine oR ?_; (conv => whnf)) | refine kOps ?_ | refine sSeq ?_ | refine sR ?_ | refine qSeqN ?_ | refine sSkip ?_)
    refine ⟨ones3 T, ⟨by decide, by show (0 + (T.map Pl.enc).length) * 24 ≤ _; rw [List.length_map]; omega⟩, ?_⟩
    repeat (first | (refine oR ?_; (conv => whnf)) | refine kOps ?_ | refine oNil ?_ | refine qSeqN ?_ | refine sRet ?_)
    refine qEndR ⟨_, .refl _, ?_⟩
    conv => whnf
    exact ⟨_, rfl, rfl⟩
theorem c_turned (T : List Pl) (i : Nat) (p : Pl) (hi : i < T.length) (hT : T.length ≤ 1099511627776) : C Try.prog 52 [encT T, .int .i64 (i : Int), .agg p.enc] (encT (T.set i p)) := by
  have hx : T[i]? = some T[i] := List.getElem?_eq_getElem hi
  refine fnOk mixed tyOk Try.func52 (code := Try.f52.body.getD .skip) rfl rfl rfl (gC_in ?_)
  repeat (first | (refine oR ?_; (conv => whnf)) | refine kOps ?_ | refine oNil ?_ | refine sSeq ?_ | refine sR ?_ | refine qSeqN ?_)
  refine oCall rfl (.inl rfl) rfl rfl rfl (.nw [] 78 3 (T.map Pl.enc)) rfl ⟨⟨rfl, rfl⟩, c_cloneR T hT, ?_⟩
  repeat (first | (refine oR ?_; (conv => whnf)) | refine kOps ?_ | refine oNil ?_ | refine sSeq ?_ | refine sR ?_ | refine qSeqN ?_)
  refine ⟨i, rfl, by simpa using hi, ?_⟩
  repeat (first | (refine oR ?_; (conv => whnf)) | refine kOps ?_)
  refine ⟨_, enc_get hx, ?_⟩
  conv => whnf
  repeat (first | (refine oR ?_; (conv => whnf)) | refine kOps ?_ | refine oNil ?_ | refine sSeq ?_ | refine sR ?_ | refine qSeqN ?_ | refine sRet ?_)
  refine qEnd ?_
  conv => whnf
  exact congrArg AV.sl (List.map_set (f := Pl.enc) (l := T) (i := i) (a := p)).symm
end Go.Proofs.Ytcfbhojpemjjpaa
