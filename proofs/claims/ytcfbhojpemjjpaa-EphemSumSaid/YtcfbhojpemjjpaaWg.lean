/- Walks: with, Put, Drop. -/
import Derived.Test.YtcfbhojpemjjpaaSq
set_option linter.unusedVariables false
set_option linter.unusedSimpArgs false
namespace Go.Proofs.Ytcfbhojpemjjpaa
open Go Go.RowKit

theorem c_with (T : List Pl) (i : Nat) (p : Pl) (hi : i < T.length) (hT : T.length ≤ 1099511627776) : C Try.prog 53 [encT T, eI i, .agg p.enc] (encT (T.set i p)) := by
  refine fnOk mixed tyOk Try.func53 (code := Try.f53.body.getD .skip) rfl rfl rfl (gC_in ?_)
  have hx : T[i]? = some T[i] := List.getElem?_eq_getElem hi
  repeat (first | (refine oR ?_; (conv => whnf)) | refine kOps ?_ | refine oNil ?_ | refine sSeq ?_ | refine sR ?_ | refine qSeqN ?_)
  refine ⟨ones3 T, ⟨by decide, by show (0 + (T.map Pl.enc).length) * 24 ≤ _; rw [List.length_map]; omega⟩, ?_⟩
  repeat (first | (refine oR ?_; (conv => whnf)) | refine kOps ?_ | refine oNil ?_ | refine sSeq ?_ | refine sR ?_ | refine qSeqN ?_)
  refine ⟨i, rfl, by simpa using hi, ?_⟩
  repeat (first | (refine oR ?_; (conv => whnf)) | refine kOps ?_)
  refine ⟨_, enc_get hx, ?_⟩
  conv => whnf
  repeat (first | (refine oR ?_; (conv => whnf)) | refine kOps ?_ | refine oNil ?_ | refine sSeq ?_ | refine sR ?_ | refine qSeqN ?_ | refine sRet ?_)
  refine qEnd ?_
  conv => whnf
  exact congrArg AV.sl (List.map_set (f := Pl.enc) (l := T) (i := i) (a := p)).symm
theorem c_hput (T : List Pl) (k v : Int) (hT : T.length ≤ 1099511627776) : C Try.prog 19 [encT T, eI k, eI v] (ePut (putAt T (hSlot T k) k v)) := by
  refine fnOk mixed tyOk Try.func19 (code := Try.f19.body.getD .skip) rfl rfl rfl (gC_in ?_)
  have ho := hFind_or T k
  have hc := c_hfind T k hT
  unfold hSlot
  generalize hFind T k = i at ho hc ⊢
  repeat (first | (refine oR ?_; (conv => whnf)) | refine kOps ?_ | refine oNil ?_ | refine sSeq ?_ | refine sR ?_ | refine qSeqN ?_)
  (refine oCall rfl (.inl rfl) rfl rfl rfl (.fz [] _) rfl ⟨rfl, hc, ?_⟩; (conv => whnf))
  repeat (first | (refine oR ?_; (conv => whnf)) | refine kOps ?_ | refine oNil ?_ | refine sSeq ?_ | refine sR ?_ | refine qSeqN ?_)
  rcases ho with rfl | ⟨n, p, hp, _, rfl⟩
  · rw [if_pos rfl]
    refine sJoin (fun j : Int => j = freeL T k) (fun j => ⟨tl [(0, encT T), (1, eI k), (2, eI v), (8, .ptr 0 0 0)], Ll [(0, .box 3 [eI j])], 34, 1, [], none⟩) ?_ (fun hj => ?_)
    · rintro j rfl
      have hf := freeL_or T k
      generalize freeL T k = j at hf ⊢
      repeat (first | (refine oR ?_; (conv => whnf)) | refine kOps ?_ | refine oNil ?_ | refine sSeq ?_ | refine sR ?_ | refine qSeqN ?_)
      rcases hf with ⟨rfl, _⟩ | ⟨m, q, _, hq, _, rfl, _⟩
      · repeat (first | (refine oR ?_; (conv => whnf)) | refine kOps ?_ | refine oNil ?_ | refine sSeq ?_ | refine sR ?_ | refine qSeqN ?_ | refine sT ?_ | refine sRet ?_ | refine qSeqR ?_)
        refine qEnd ?_
        conv => whnf
        rfl
      · have e : putAt T (q.1 : Int) k v = (T.set q.1 ⟨1, k, v⟩, 0) := by simp [putAt]
        rw [e]
        repeat (first | (refine oR ?_; (conv => whnf)) | refine kOps ?_ | refine sSeq ?_ | refine sR ?_ | refine qSeqN ?_ | refine sSkip ?_ | refine sF ?_)
        (refine oCall rfl (.inl rfl) rfl rfl rfl (.fz [] _) rfl ⟨rfl, c_turned T q.1 ⟨1, k, v⟩ (lt_of_get hq) hT, ?_⟩; (conv => whnf))
        repeat (first | (refine oR ?_; (conv => whnf)) | refine kOps ?_ | refine oNil ?_ | refine qSeqN ?_ | refine sRet ?_)
        refine qEnd ?_
        conv => whnf
        rfl
    · repeat (first | (refine oR ?_; (conv => whnf)) | refine kOps ?_ | refine sSeq ?_ | refine sR ?_ | refine sT ?_)
      (refine oCall rfl (.inl rfl) rfl rfl rfl (.fz [] _) rfl ⟨rfl, c_road T k, ?_⟩; (conv => whnf))
      repeat (first | refine kOps ?_ | refine oNil ?_ | refine qSeqN ?_ | refine sBlk ?_)
      refine forIn rfl rfl (it_road T k hT) (fun _ => ⟨tl [(0, encT T), (1, eI k), (2, eI v), (8, .ptr 0 0 0)], Ll [(0, .box 3 [eI (-1)])], 34, 1, [], none⟩) (fun i => freeGo ((roadP T k).drop i) = freeL T k) .kp rfl (fun i z hi hz => ?_) (fun hn => ?_)
      · obtain ⟨⟨ix, p⟩, hq, rfl⟩ := get_map hz
        rw [drop_of hq, freeGo] at hi
        refine ⟨rfl, rfl, ?_⟩
        repeat (first | (refine oR ?_; (conv => whnf)) | refine kOps ?_ | refine oNil ?_ | refine sSeq ?_ | refine sR ?_ | refine qSeqN ?_)
        refine qAs ?_
        repeat (first | (refine oR ?_; (conv => whnf)) | refine kOps ?_ | refine oNil ?_ | refine sSeq ?_ | refine sR ?_ | refine qSeqN ?_ | refine sBlk ?_)
        refine sC rfl (fun h1 => ?_) (fun h1 => ?_)
        · rw [if_pos (by simpa using h1)] at hi
          repeat (first | (refine oR ?_; (conv => whnf)) | refine kOps ?_ | refine oNil ?_ | refine sSeq ?_ | refine sR ?_ | refine qSeqN ?_ | refine sExit ?_ | refine qX ?_ | refine qY ?_ | refine qRndE ?_)
          refine qJoin ?_ (hj _ rfl)
          rw [← hi]
          exact .kp
        · rw [if_neg (by simpa using h1)] at hi
          repeat (first | refine sSkip ?_ | refine qBlkN ?_)
          exact qRndN .kp hi
      · rw [List.drop_eq_nil_of_le (by simp [roadL])] at hn
        refine qBlkN (qJoin ?_ (hj _ rfl))
        rw [← hn]
        exact .kp
  · rw [if_neg (by omega)]
    have e : putAt T (n : Int) k v = (T.set n ⟨1, k, v⟩, 0) := by simp [putAt]
    rw [e]
    repeat (first | (refine oR ?_; (conv => whnf)) | refine kOps ?_ | refine oNil ?_ | refine sSeq ?_ | refine sR ?_ | refine qSeqN ?_ | refine sSkip ?_ | refine sF ?_)
    (refine oCall rfl (.inl rfl) rfl rfl rfl (.fz [] _) rfl ⟨rfl, c_turned T n ⟨1, k, v⟩ (lt_of_get hp) hT, ?_⟩; (conv => whnf))
    repeat (first | (refine oR ?_; (conv => whnf)) | refine kOps ?_ | refine oNil ?_ | refine qSeqN ?_ | refine sRet ?_)
    refine qEnd ?_
    conv => whnf
    rfl
theorem c_hdrop (T : List Pl) (k : Int) (hT : T.length ≤ 1099511627776) : C Try.prog 21 [encT T, eI k] (eDrop (dropAt T (hFind T k))) := by
  refine fnOk mixed tyOk Try.func21 (code := Try.f21.body.getD .skip) rfl rfl rfl (gC_in ?_)
  have ho := hFind_or T k
  have hc := c_hfind T k hT
  generalize hFind T k = i at ho hc ⊢
  repeat (first | (refine oR ?_; (conv => whnf)) | refine kOps ?_ | refine oNil ?_ | refine sSeq ?_ | refine sR ?_ | refine qSeqN ?_)
  (refine oCall rfl (.inl rfl) rfl rfl rfl (.fz [] _) rfl ⟨rfl, hc, ?_⟩; (conv => whnf))
  repeat (first | (refine oR ?_; (conv => whnf)) | refine kOps ?_ | refine oNil ?_ | refine sSeq ?_ | refine sR ?_ | refine qSeqN ?_)
  rcases ho with rfl | ⟨n, p, hp, _, rfl⟩
  · repeat (first | (refine oR ?_; (conv => whnf)) | refine kOps ?_ | refine oNil ?_ | refine sSeq ?_ | refine sR ?_ | refine qSeqN ?_ | refine sT ?_ | refine sRet ?_ | refine qSeqR ?_)
    refine qEnd ?_
    conv => whnf
    rfl
  · have e : dropAt T (n : Int) = (T.set n ⟨2, 0, 0⟩, p.vl, 0) := by simp [dropAt, hp]
    rw [e]
    repeat (first | (refine oR ?_; (conv => whnf)) | refine kOps ?_ | refine sSeq ?_ | refine sR ?_ | refine qSeqN ?_ | refine sSkip ?_ | refine sF ?_)
    (refine oCall rfl (.inl rfl) rfl rfl rfl (.fz [] _) rfl ⟨rfl, c_turned T n ⟨2, 0, 0⟩ (lt_of_get hp) hT, ?_⟩; (conv => whnf))
    repeat (first | (refine oR ?_; (conv => whnf)) | refine kOps ?_ | refine oNil ?_ | refine sSeq ?_ | refine qSeqN ?_ | refine sD ?_ | (apply drRun; exact rfl; exact .inl rfl; (conv => whnf); exact .mk rfl) | (apply drRun; exact rfl; exact .inl rfl; (conv => whnf)))
    refine ⟨n, _, rfl, enc_get hp, ?_⟩
    conv => whnf
    exact .mk rfl
    repeat (first | refine qSeqN ?_ | refine sRet ?_ | (apply drRun; exact rfl; exact .inl rfl; (conv => whnf); exact .mk rfl) | refine drNil ?_)
    refine qEnd ?_
    conv => whnf
    rfl
theorem c_drop (T : List Pl) (k : Int) (hT : T.length ≤ 1099511627776) : C Try.prog 22 [encT T, eI k] (eDrop (dropAt T (findL T k))) := by
  refine fnOk mixed tyOk Try.func22 (code := Try.f22.body.getD .skip) rfl rfl rfl (gC_in ?_)
  have ho := findL_or T k
  have hc := c_find T k hT
  generalize findL T k = i at ho hc ⊢
  repeat (first | (refine oR ?_; (conv => whnf)) | refine kOps ?_ | refine oNil ?_ | refine sSeq ?_ | refine sR ?_ | refine qSeqN ?_)
  (refine oCall rfl (.inl rfl) rfl rfl rfl (.fz [] _) rfl ⟨rfl, hc, ?_⟩; (conv => whnf))
  repeat (first | (refine oR ?_; (conv => whnf)) | refine kOps ?_ | refine oNil ?_ | refine sSeq ?_ | refine sR ?_ | refine qSeqN ?_)
  rcases ho with ⟨rfl, _⟩ | ⟨n, p, hp, _, rfl, _⟩
  · repeat (first | (refine oR ?_; (conv => whnf)) | refine kOps ?_ | refine oNil ?_ | refine sSeq ?_ | refine sR ?_ | refine qSeqN ?_ | refine sT ?_ | refine sRet ?_ | refine qSeqR ?_)
    refine qEnd ?_
    conv => whnf
    rfl
  · have e : dropAt T (n : Int) = (T.set n ⟨2, 0, 0⟩, p.vl, 0) := by simp [dropAt, hp]
    rw [e]
    refine sC rfl (fun h => ?_) (fun h => ?_)
    · exfalso; simp at h <;> omega
    repeat (first | refine sSeq ?_ | refine qSeqN ?_ | refine sSkip ?_ | refine sD ?_ | (apply drRun; exact rfl; exact .inl rfl; (conv => whnf); exact .mk rfl) | (apply drRun; exact rfl; exact .inl rfl; (conv => whnf)))
    (refine ⟨.fz [] _, rfl, c_with T n ⟨2, 0, 0⟩ (lt_of_get hp) hT, ?_⟩; (conv => whnf); exact .mk rfl)
    repeat (first | (apply drRun; exact rfl; exact .inl rfl; (conv => whnf); exact .mk rfl) | (apply drRun; exact rfl; exact .inl rfl; (conv => whnf)))
    refine ⟨n, _, rfl, enc_get hp, ?_⟩
    conv => whnf
    exact .mk rfl
    repeat (first | refine qSeqN ?_ | refine sRet ?_ | (apply drRun; exact rfl; exact .inl rfl; (conv => whnf); exact .mk rfl) | refine drNil ?_)
    refine qEnd ?_
    conv => whnf
    rfl
end Go.Proofs.Ytcfbhojpemjjpaa
