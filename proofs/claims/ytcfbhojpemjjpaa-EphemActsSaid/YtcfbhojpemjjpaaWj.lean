/- Walks: Right. -/
import Derived.Test.YtcfbhojpemjjpaaWi
set_option linter.unusedVariables false
set_option linter.unusedSimpArgs false
namespace Go.Proofs.Ytcfbhojpemjjpaa
open Go Go.RowKit

def sameKey (p q : Pl) : Bool := q.st == 1 && q.ky == p.ky
theorem c_clR (p q : Pl) : C Try.prog 55 [.agg q.enc, .vptr p.enc] (.bool (sameKey p q)) := by
  refine fnOk mixed tyOk Try.func55 (code := Try.f55.body.getD .skip) rfl rfl rfl (gC_in ?_)
  repeat (first | (refine oR ?_; (conv => whnf)) | refine kOps ?_ | refine oNil ?_ | refine sSeq ?_ | refine sR ?_ | refine qSeqN ?_)
  refine oS rfl rfl rfl (fun h => ?_) (fun h => ?_)
  · have e : sameKey p q = (q.ky == p.ky) := by simp [sameKey, h]
    rw [e]
    repeat (first | (refine oR ?_; (conv => whnf)) | refine kOps ?_ | (refine oG ?_; (conv => whnf)) | refine oNil ?_ | refine qSeqN ?_ | refine sRet ?_ | (refine sBT ?_; (conv => whnf)))
    refine qEnd ?_
    conv => whnf
    rfl
  · have e : sameKey p q = false := by simp [sameKey, h]
    rw [e]
    repeat (first | (refine oR ?_; (conv => whnf)) | refine kOps ?_ | refine oH ?_ | refine oNil ?_ | refine qSeqN ?_ | refine sRet ?_ | (refine sBF ?_; (conv => whnf)))
    refine qEnd ?_
    conv => whnf
    rfl
def idxGo (p : Pl) : List Pl → Nat → Int
  | [], _ => -1
  | q :: l, i => if sameKey p q then (i : Int) else idxGo p l (i + 1)
theorem idxGo_or (p : Pl) : ∀ (l : List Pl) (i : Nat), (l.any (sameKey p) = false ∧ idxGo p l i = -1) ∨ (l.any (sameKey p) = true ∧ 0 ≤ idxGo p l i)
  | [], i => .inl ⟨rfl, rfl⟩
  | q :: l, i => by
    unfold idxGo
    rw [List.any_cons]
    cases h : sameKey p q with
    | true => rw [if_pos rfl]; exact .inr ⟨rfl, by omega⟩
    | false =>
      rw [if_neg (by decide)]
      exact idxGo_or p l (i + 1)
theorem c_idx (T : List Pl) (p : Pl) (hT : T.length ≤ 1099511627776) : C Try.prog 63 [encT T, .fn 55 [.vptr p.enc]] (eI (idxGo p T 0)) := by
  refine fnOk mixed tyOk Try.func63 (code := Try.f63.body.getD .skip) rfl rfl rfl (gC_in ?_)
  have hlen : (T.map Pl.enc).length = T.length := List.length_map _
  repeat (first | (refine oR ?_; (conv => whnf)) | refine kOps ?_ | refine oNil ?_ | refine sSeq ?_ | refine sR ?_ | refine qSeqN ?_ | refine sBlk ?_)
  refine sLoop (fun i => i ≤ T.length ∧ idxGo p (T.drop i) i = idxGo p T 0) (fun i => ⟨tl [(0, encT T), (1, .fn 55 [.vptr p.enc]), (7, eI T.length), (8, eI (i : Int))], Ll [], 19, 0, [], none⟩) (fun i => T.length - i) 0
    (.keep _ _ _ _ trivial ⟨rfl, rfl, congrArg (fun n : Nat => eI n) hlen, rfl, trivial⟩ rfl rfl) ⟨Nat.zero_le _, rfl⟩ fun i hi => ?_
  obtain ⟨hi, hgo⟩ := hi
  repeat (first | (refine oR ?_; (conv => whnf)) | refine kOps ?_ | refine oNil ?_ | refine sSeq ?_ | refine sR ?_ | refine qSeqN ?_)
  refine sC rfl (fun h1 => ?_) (fun h1 => ?_)
  · have hlt : i < T.length := by have := dT h1; omega
    obtain ⟨q, hq⟩ : ∃ q, T[i]? = some q := ⟨_, List.getElem?_eq_getElem hlt⟩
    rw [drop_of hq, idxGo] at hgo
    repeat (first | (refine oR ?_; (conv => whnf)) | refine kOps ?_ | refine oNil ?_ | refine sSeq ?_ | refine sR ?_ | refine qSeqN ?_ | refine sSkip ?_ | refine sBlk ?_)
    refine ⟨i, _, rfl, enc_get hq, ?_⟩
    conv => whnf
    repeat (first | (refine oR ?_; (conv => whnf)) | refine kOps ?_)
    (refine oCall rfl (.inl rfl) rfl rfl rfl (.fz [] _) rfl ⟨rfl, c_clR p q, ?_⟩; (conv => whnf))
    repeat (first | refine kOps ?_ | refine oNil ?_ | refine qSeqN ?_)
    refine sC rfl (fun h2 => ?_) (fun h2 => ?_)
    · rw [if_pos h2] at hgo
      rw [← hgo]
      repeat (first | (refine oR ?_; (conv => whnf)) | refine kOps ?_ | refine oNil ?_ | refine sSeq ?_ | refine sR ?_ | refine qSeqN ?_ | refine sRet ?_ | refine qSeqR ?_ | refine qBlkR ?_ | refine qLoopR ?_)
      refine qEnd ?_
      conv => whnf
      rfl
    · rw [if_neg (by simp [h2])] at hgo
      repeat (first | (refine oR ?_; (conv => whnf)) | refine kOps ?_ | refine oNil ?_ | refine sR ?_ | refine qSeqN ?_ | refine sSkip ?_ | refine qBlkN ?_)
      exact qLoopN (i + 1) .kp ⟨by omega, hgo⟩ (by omega)
  · have hge : T.length ≤ i := by have := dF h1; omega
    rw [List.drop_eq_nil_of_le hge] at hgo
    rw [← hgo]
    repeat (first | (refine oR ?_; (conv => whnf)) | refine kOps ?_ | refine oNil ?_ | refine sSeq ?_ | refine sR ?_ | refine qSeqN ?_ | refine sRet ?_ | refine sExit ?_ | refine qSeqE ?_ | refine qX ?_ | refine qLoopE ?_)
    refine qEnd ?_
    conv => whnf
    rfl
theorem c_contains (T : List Pl) (p : Pl) (hT : T.length ≤ 1099511627776) : C Try.prog 54 [encT T, .fn 55 [.vptr p.enc]] (.bool (T.any (sameKey p))) := by
  refine fnOk mixed tyOk Try.func54 (code := Try.f54.body.getD .skip) rfl rfl rfl (gC_in ?_)
  have e : T.any (sameKey p) = decide (idxGo p T 0 ≥ 0) := by
    rcases idxGo_or p T 0 with ⟨h1, h2⟩ | ⟨h1, h2⟩
    · rw [h1, h2]; rfl
    · rw [h1, decide_eq_true h2]
  rw [e]
  repeat (first | (refine oR ?_; (conv => whnf)) | refine kOps ?_ | refine oNil ?_ | refine sSeq ?_ | refine sR ?_ | refine qSeqN ?_)
  (refine oCall rfl (.inl rfl) rfl rfl rfl (.fz [] _) rfl ⟨rfl, c_idx T p hT, ?_⟩; (conv => whnf))
  repeat (first | (refine oR ?_; (conv => whnf)) | refine kOps ?_ | refine oNil ?_ | refine qSeqN ?_ | refine sRet ?_)
  refine qEnd ?_
  conv => whnf
  rfl
def okH (T : List Pl) (i : Nat) (p : Pl) : Bool :=
  if p.st = 1 then (if hFind T p.ky ≠ (i : Int) then false else !((T.take i).any (sameKey p))) else if p.st = 0 ∨ p.st = 2 then decide (p.ky = 0 ∧ p.vl = 0) else false
def hRight (T : List Pl) : Bool := if T.length < 1 ∨ 8 < T.length then false else allIx (okH T) T 0
theorem c_hright (T : List Pl) (hT : T.length ≤ 1099511627776) : C Try.prog 33 [encT T] (.bool (hRight T)) := by
  refine fnOk mixed tyOk Try.func33 (code := Try.f33.body.getD .skip) rfl rfl rfl (gC_in ?_)
  have hlen : (T.map Pl.enc).length = T.length := List.length_map _
  repeat (first | (refine oR ?_; (conv => whnf)) | refine kOps ?_ | refine oNil ?_ | refine sSeq ?_ | refine sR ?_ | refine qSeqN ?_)
  refine oS rfl rfl rfl (fun h1 => ?_) (fun h1 => ?_)
  · rw [hRight, if_pos (by have := dT h1; simp at this; omega)]
    repeat (first | (refine oR ?_; (conv => whnf)) | refine kOps ?_ | refine oH ?_ | refine oNil ?_ | refine sSeq ?_ | refine sR ?_ | refine qSeqN ?_ | refine sT ?_ | refine sRet ?_ | refine qSeqR ?_ | (refine sBT ?_; (conv => whnf)))
    refine qEnd ?_
    conv => whnf
    rfl
  · have h1 := dF h1
    rw [hlen] at h1
    repeat (first | (refine oR ?_; (conv => whnf)) | refine kOps ?_ | (refine oG ?_; (conv => whnf)) | refine oNil ?_ | refine qSeqN ?_ | (refine sBF ?_; (conv => whnf)))
    refine sC rfl (fun h2 => ?_) (fun h2 => ?_)
    · rw [hRight, if_pos (by have := dT h2; simp at this; omega)]
      repeat (first | (refine oR ?_; (conv => whnf)) | refine kOps ?_ | refine oNil ?_ | refine sSeq ?_ | refine sR ?_ | refine qSeqN ?_ | refine sRet ?_ | refine qSeqR ?_)
      refine qEnd ?_
      conv => whnf
      rfl
    · have h2 := dF h2
      rw [hlen] at h2
      rw [hRight, if_neg (by omega)]
      repeat (first | (refine oR ?_; (conv => whnf)) | refine kOps ?_ | refine oNil ?_ | refine sSeq ?_ | refine sR ?_ | refine qSeqN ?_ | refine sSkip ?_ | refine sBlk ?_)
      refine sLoop (fun i => i ≤ T.length ∧ allIx (okH T) (T.drop i) i = allIx (okH T) T 0) (fun i => ⟨tl [(0, encT T), (13, encT T), (14, eI T.length), (15, eI (i : Int))], Ll [], 49, 0, [], none⟩) (fun i => T.length - i) 0
        (.keep _ _ _ _ trivial ⟨rfl, rfl, congrArg (fun n : Nat => eI n) hlen, rfl, trivial⟩ rfl rfl) ⟨Nat.zero_le _, rfl⟩ fun i hi => ?_
      obtain ⟨hi, hall⟩ := hi
      repeat (first | (refine oR ?_; (conv => whnf)) | refine kOps ?_ | refine oNil ?_ | refine sSeq ?_ | refine sR ?_ | refine qSeqN ?_)
      refine sC rfl (fun h3 => ?_) (fun h3 => ?_)
      · have hlt : i < T.length := by have := dT h3; omega
        obtain ⟨p, hp⟩ : ∃ p, T[i]? = some p := ⟨_, List.getElem?_eq_getElem hlt⟩
        rw [drop_of hp, allIx] at hall
        have hbad : okH T i p = false → allIx (okH T) T 0 = false := fun h => by rw [← hall, h]; rfl
        have hgood : okH T i p = true → allIx (okH T) (T.drop (i + 1)) (i + 1) = allIx (okH T) T 0 := fun h => by rw [← hall, h]; rfl
        repeat (first | (refine oR ?_; (conv => whnf)) | refine kOps ?_ | refine sSeq ?_ | refine sR ?_ | refine qSeqN ?_ | refine sSkip ?_ | refine sBlk ?_)
        refine ⟨i, _, rfl, enc_get hp, ?_⟩
        conv => whnf
        repeat (first | (refine oR ?_; (conv => whnf)) | refine kOps ?_ | refine oNil ?_ | refine sSeq ?_ | refine sR ?_ | refine qSeqN ?_ | refine sBlk ?_)
        refine sC rfl (fun h4 => ?_) (fun h4 => ?_)
        · have h4 : p.st = 1 := by simpa using h4
          repeat (first | (refine oR ?_; (conv => whnf)) | refine kOps ?_ | refine sSeq ?_ | refine sR ?_)
          (refine oCall rfl (.inl rfl) rfl rfl rfl (.fz [] _) rfl ⟨rfl, c_hfind T p.ky hT, ?_⟩; (conv => whnf))
          repeat (first | (refine oR ?_; (conv => whnf)) | refine kOps ?_)
          refine oS rfl rfl rfl (fun h5 => ?_) (fun h5 => ?_)
          · rw [hbad (by rw [okH, if_pos h4, if_pos (by simpa using h5)])]
            repeat (first | (refine oR ?_; (conv => whnf)) | refine kOps ?_ | refine oH ?_ | refine oNil ?_ | refine sSeq ?_ | refine sR ?_ | refine qSeqN ?_ | refine sT ?_ | refine sRet ?_ | refine qSeqR ?_ | refine qBlkR ?_ | refine qLoopR ?_ | (refine sBT ?_; (conv => whnf)))
            refine qEnd ?_
            conv => whnf
            rfl
          · have h5 : hFind T p.ky = (i : Int) := by simpa using h5
            repeat (first | refine kOps ?_ | (refine oG ?_; (conv => whnf)))
            have hones := ones3 T
            refine ⟨fun x hx => (hones x hx).1, i, rfl, by simpa using hi, ?_⟩
            conv => whnf
            rw [show ((T.map Pl.enc).take i).drop 0 = (T.take i).map Pl.enc by simp]
            repeat (first | refine kOps ?_ | (refine oG ?_; (conv => whnf)))
            (refine oCall rfl (.inr ⟨_, _, _, rfl, rfl, rfl⟩) rfl rfl rfl (.fz [0] _) rfl ⟨rfl, c_contains (T.take i) p (by simp; omega), ?_⟩; (conv => whnf))
            repeat (first | (refine oR ?_; (conv => whnf)) | refine kOps ?_ | refine oNil ?_ | refine qSeqN ?_ | (refine sBF ?_; (conv => whnf)))
            refine sC rfl (fun h6 => ?_) (fun h6 => ?_)
            · rw [hbad (by rw [okH, if_pos h4, if_neg (by simpa using h5), h6]; rfl)]
              repeat (first | (refine oR ?_; (conv => whnf)) | refine kOps ?_ | refine oNil ?_ | refine sSeq ?_ | refine sR ?_ | refine qSeqN ?_ | refine sRet ?_ | refine qSeqR ?_ | refine qBlkR ?_ | refine qLoopR ?_)
              refine qEnd ?_
              conv => whnf
              rfl
            · repeat (first | (refine oR ?_; (conv => whnf)) | refine kOps ?_ | refine oNil ?_ | refine sR ?_ | refine qSeqN ?_ | refine sSkip ?_ | refine qBlkN ?_)
              exact qLoopN (i + 1) .kp ⟨by omega, hgood (by rw [okH, if_pos h4, if_neg (by simpa using h5), h6]; rfl)⟩ (by omega)
        · have h4 : ¬ p.st = 1 := by simpa using h4
          repeat (first | (refine oR ?_; (conv => whnf)) | refine kOps ?_ | refine oNil ?_ | refine sSeq ?_ | refine sR ?_ | refine qSeqN ?_)
          refine sC rfl (fun h5 => ?_) (fun h5 => ?_)
          · have h5 : p.st = 0 := by simpa using h5
            have e : okH T i p = decide (p.ky = 0 ∧ p.vl = 0) := by rw [okH, if_neg h4, if_pos (.inl h5)]
            rw [e] at hbad hgood
            repeat (first | (refine oR ?_; (conv => whnf)) | refine kOps ?_ | refine sSeq ?_ | refine sR ?_ | refine qSeqN ?_ | refine sSkip ?_ | refine sT ?_)
            refine oS rfl rfl rfl (fun h6 => ?_) (fun h6 => ?_)
            · rw [hbad (by simp at h6; simp [h6])]
              repeat (first | (refine oR ?_; (conv => whnf)) | refine kOps ?_ | refine oH ?_ | refine oNil ?_ | refine sSeq ?_ | refine sR ?_ | refine qSeqN ?_ | refine sT ?_ | refine sRet ?_ | refine qSeqR ?_ | refine qBlkR ?_ | refine qLoopR ?_ | (refine sBT ?_; (conv => whnf)))
              refine qEnd ?_
              conv => whnf
              rfl
            · repeat (first | (refine oR ?_; (conv => whnf)) | refine kOps ?_ | (refine oG ?_; (conv => whnf)) | refine oNil ?_ | refine qSeqN ?_ | (refine sBF ?_; (conv => whnf)))
              refine sC rfl (fun h7 => ?_) (fun h7 => ?_)
              · rw [hbad (by simp at h7; simp [h7])]
                repeat (first | (refine oR ?_; (conv => whnf)) | refine kOps ?_ | refine oNil ?_ | refine sSeq ?_ | refine sR ?_ | refine qSeqN ?_ | refine sRet ?_ | refine qSeqR ?_ | refine qBlkR ?_ | refine qLoopR ?_)
                refine qEnd ?_
                conv => whnf
                rfl
              · repeat (first | (refine oR ?_; (conv => whnf)) | refine kOps ?_ | refine oNil ?_ | refine sR ?_ | refine qSeqN ?_ | refine sSkip ?_ | refine qBlkN ?_)
                exact qLoopN (i + 1) .kp ⟨by omega, hgood (by simp at h6 h7; simp [h6, h7])⟩ (by omega)
          · have h5 : ¬ p.st = 0 := by simpa using h5
            repeat (first | (refine oR ?_; (conv => whnf)) | refine kOps ?_ | refine oNil ?_ | refine sR ?_ | refine qSeqN ?_)
            refine sC rfl (fun h6 => ?_) (fun h6 => ?_)
            · have h6 : p.st = 2 := by simpa using h6
              have e : okH T i p = decide (p.ky = 0 ∧ p.vl = 0) := by rw [okH, if_neg h4, if_pos (.inr h6)]
              rw [e] at hbad hgood
              repeat (first | (refine oR ?_; (conv => whnf)) | refine kOps ?_ | refine sSeq ?_ | refine sR ?_)
              refine oS rfl rfl rfl (fun h6 => ?_) (fun h6 => ?_)
              · rw [hbad (by simp at h6; simp [h6])]
                repeat (first | (refine oR ?_; (conv => whnf)) | refine kOps ?_ | refine oH ?_ | refine oNil ?_ | refine sSeq ?_ | refine sR ?_ | refine qSeqN ?_ | refine sT ?_ | refine sRet ?_ | refine qSeqR ?_ | refine qBlkR ?_ | refine qLoopR ?_ | (refine sBT ?_; (conv => whnf)))
                refine qEnd ?_
                conv => whnf
                rfl
              · repeat (first | (refine oR ?_; (conv => whnf)) | refine kOps ?_ | (refine oG ?_; (conv => whnf)) | refine oNil ?_ | refine qSeqN ?_ | (refine sBF ?_; (conv => whnf)))
                refine sC rfl (fun h7 => ?_) (fun h7 => ?_)
                · rw [hbad (by simp at h7; simp [h7])]
                  repeat (first | (refine oR ?_; (conv => whnf)) | refine kOps ?_ | refine oNil ?_ | refine sSeq ?_ | refine sR ?_ | refine qSeqN ?_ | refine sRet ?_ | refine qSeqR ?_ | refine qBlkR ?_ | refine qLoopR ?_)
                  refine qEnd ?_
                  conv => whnf
                  rfl
                · repeat (first | (refine oR ?_; (conv => whnf)) | refine kOps ?_ | refine oNil ?_ | refine sR ?_ | refine qSeqN ?_ | refine sSkip ?_ | refine qBlkN ?_)
                  exact qLoopN (i + 1) .kp ⟨by omega, hgood (by simp at h6 h7; simp [h6, h7])⟩ (by omega)
            · have h6 : ¬ p.st = 2 := by simpa using h6
              rw [hbad (by rw [okH, if_neg h4, if_neg (by omega)])]
              repeat (first | (refine oR ?_; (conv => whnf)) | refine kOps ?_ | refine oNil ?_ | refine sSeq ?_ | refine sR ?_ | refine qSeqN ?_ | refine sRet ?_ | refine qSeqR ?_ | refine qBlkR ?_ | refine qLoopR ?_)
              refine qEnd ?_
              conv => whnf
              rfl
      · have hge : T.length ≤ i := by have := dF h3; omega
        rw [List.drop_eq_nil_of_le hge] at hall
        rw [← hall]
        repeat (first | (refine oR ?_; (conv => whnf)) | refine kOps ?_ | refine oNil ?_ | refine sSeq ?_ | refine sR ?_ | refine qSeqN ?_ | refine sRet ?_ | refine sExit ?_ | refine qSeqE ?_ | refine qX ?_ | refine qLoopE ?_)
        refine qEnd ?_
        conv => whnf
        rfl
end Go.Proofs.Ytcfbhojpemjjpaa
