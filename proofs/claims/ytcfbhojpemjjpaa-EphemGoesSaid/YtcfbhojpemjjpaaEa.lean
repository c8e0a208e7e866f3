/- Walks: pairs of a table. -/
import Derived.Test.YtcfbhojpemjjpaaWf
import Derived.Test.YtcfbhojpemjjpaaWj
import Derived.Test.YtcfbhojpemjjpaaLa
set_option linter.unusedVariables false
set_option linter.unusedSimpArgs false
namespace Go.Proofs.Ytcfbhojpemjjpaa
open Go Go.RowKit

abbrev Pr : Type := Int × Int
def Pl.pr (p : Pl) : Pr := (p.ky, p.vl)
def encP (q : Pr) : List AV := [eI q.1, eI q.2]
abbrev encQ (l : List Pr) : AV := .sl (l.map encP)
def fullT (T : List Pl) : List Pl := T.filter fun p => p.st == 1
def pairsL (T : List Pl) : List Pr := (fullT T).map Pl.pr
def prItems (T : List Pl) : List (List AV) := (pairsL T).map fun q => [.agg (encP q)]
theorem encP_get {l : List Pr} {i : Nat} {q : Pr} (h : l[i]? = some q) : (l.map encP)[i]? = some (encP q) := by rw [List.getElem?_map, h]; rfl
theorem pairsL_snoc {T : List Pl} {i : Nat} {p : Pl} (h : T[i]? = some p) : pairsL (T.take (i + 1)) = if p.st = 1 then pairsL (T.take i) ++ [p.pr] else pairsL (T.take i) := by
  obtain ⟨h1, rfl⟩ := List.getElem?_eq_some_iff.1 h
  rw [List.take_succ_eq_append_getElem h1]
  unfold pairsL fullT
  rw [List.filter_append, List.map_append]
  by_cases hs : T[i].st = 1 <;> simp [hs]
theorem pairsL_le (T : List Pl) : (pairsL T).length ≤ T.length := by
  unfold pairsL fullT
  rw [List.length_map]
  exact List.length_filter_le _ _
theorem pairsL_at {T : List Pl} {i : Nat} {p : Pl} (h : T[i]? = some p) (hs : p.st = 1) : (pairsL T)[(pairsL (T.take i)).length]? = some p.pr := by
  have e := pairsL_snoc h
  rw [if_pos hs] at e
  have : pairsL T = pairsL (T.take (i + 1)) ++ pairsL (T.drop (i + 1)) := by
    unfold pairsL fullT
    rw [← List.map_append, ← List.filter_append, List.take_append_drop]
  rw [this, e]
  simp
theorem c_pairs (T : List Pl) : C Try.prog 57 [encT T] (.fn 64 [.vptr [encT T]]) := by
  refine fnOk mixed tyOk Try.func57 (code := Try.f57.body.getD .skip) rfl rfl rfl (gC_in ?_)
  repeat (first | (refine oR ?_; (conv => whnf)) | refine kOps ?_ | refine oNil ?_ | refine sSeq ?_ | refine sR ?_ | refine qSeqN ?_ | refine sRet ?_)
  refine qEnd ?_
  conv => whnf
  rfl
theorem it_pairs (T : List Pl) (hT : T.length ≤ 1099511627776) : IT Try.prog 64 [.vptr [encT T]] (prItems T) := by
  refine itOk mixed tyOk Try.func64 (code := Try.f64.body.getD .skip) rfl rfl rfl rfl (gC_in ?_)
  have hlen : (T.map Pl.enc).length = T.length := List.length_map _
  repeat (first | (refine oR ?_; (conv => whnf)) | refine kOps ?_ | refine oNil ?_ | refine sSeq ?_ | refine sR ?_ | refine qSeqN ?_ | refine sBlk ?_)
  refine sLoop (fun i => i ≤ T.length) (fun i => ⟨tl [(0, .yld), (5, encT T), (6, eI T.length), (7, eI (i : Int))], Ll [], 25, 0, [], some (pairsL (T.take i)).length⟩) (fun i => T.length - i) 0
    (.keep _ _ _ _ trivial ⟨rfl, rfl, congrArg (fun n : Nat => eI n) hlen, rfl, trivial⟩ rfl rfl) (Nat.zero_le _) fun i hi => ?_
  repeat (first | (refine oR ?_; (conv => whnf)) | refine kOps ?_ | refine oNil ?_ | refine sSeq ?_ | refine sR ?_ | refine qSeqN ?_)
  refine sC rfl (fun h1 => ?_) (fun h1 => ?_)
  · have hlt : i < T.length := by have := dT h1; omega
    obtain ⟨p, hp⟩ : ∃ p, T[i]? = some p := ⟨_, List.getElem?_eq_getElem hlt⟩
    have hk := pairsL_snoc hp
    repeat (first | (refine oR ?_; (conv => whnf)) | refine sSeq ?_ | refine sR ?_ | refine qSeqN ?_ | refine sSkip ?_ | refine sBlk ?_)
    refine ⟨i, _, rfl, enc_get hp, ?_⟩
    conv => whnf
    repeat (first | (refine oR ?_; (conv => whnf)) | refine kOps ?_ | refine oNil ?_ | refine sSeq ?_ | refine sR ?_ | refine qSeqN ?_)
    refine oS rfl rfl rfl (fun h2 => ?_) (fun h2 => ?_)
    · have h2 : p.st = 1 := by simpa using h2
      rw [if_pos h2] at hk
      have hitem : (prItems T)[(pairsL (T.take i)).length]? = some [.agg (encP p.pr)] := by
        unfold prItems
        rw [List.getElem?_map, pairsL_at hp h2]; rfl
      have hy : (pairsL (T.take (i + 1))).length = (pairsL (T.take i)).length + 1 := by rw [hk]; simp
      repeat (first | refine kOps ?_ | (refine oG ?_; (conv => whnf)))
      refine oYield rfl (.inr ⟨_, _, _, rfl, rfl, rfl⟩) rfl rfl rfl («as» := [.agg (encP p.pr)]) rfl ?_
      refine ⟨_, _, rfl, hitem, rfl, rfl, kY ?_, kY ?_⟩
      · repeat (first | (refine oR ?_; (conv => whnf)) | refine kOps ?_ | (refine oG ?_; (conv => whnf)) | refine oNil ?_ | refine sR ?_ | refine qSeqN ?_ | refine sSkip ?_ | refine sF ?_ | refine qBlkN ?_ | (refine sBT ?_; (conv => whnf)))
        refine qLoopN (i + 1) ?_ (show i + 1 ≤ T.length by omega) (by omega)
        simp only [hy]
        exact .kp
      · repeat (first | (refine oR ?_; (conv => whnf)) | refine kOps ?_ | (refine oG ?_; (conv => whnf)) | refine oNil ?_ | refine qSeqN ?_ | refine sT ?_ | refine sRet ?_ | refine qSeqR ?_ | refine qBlkR ?_ | refine qLoopR ?_ | (refine sBT ?_; (conv => whnf)))
        exact qIt (.inr rfl)
    · have h2 : ¬ p.st = 1 := by simpa using h2
      rw [if_neg h2] at hk
      repeat (first | (refine oR ?_; (conv => whnf)) | refine kOps ?_ | refine oH ?_ | refine oNil ?_ | refine sR ?_ | refine qSeqN ?_ | refine sSkip ?_ | refine sF ?_ | refine qBlkN ?_ | (refine sBF ?_; (conv => whnf)))
      refine qLoopN (i + 1) ?_ (show i + 1 ≤ T.length by omega) (by omega)
      simp only [hk]
      exact .kp
  · have hge : T.length ≤ i := by have := dF h1; omega
    repeat (first | refine sExit ?_ | refine qSeqE ?_ | refine qX ?_ | refine qLoopE ?_)
    refine qItN (.inl ?_)
    show some (pairsL (T.take i)).length = some (prItems T).length
    rw [List.take_of_length_le hge]
    simp [prItems]
theorem c_prs1 (q : Pr) : C Try.prog 58 [.agg (encP q)] (.tup [.agg (encP q), .bool true]) := by
  refine fnOk mixed tyOk Try.func58 (code := Try.f58.body.getD .skip) rfl rfl rfl (gC_in ?_)
  repeat (first | (refine oR ?_; (conv => whnf)) | refine kOps ?_ | refine oNil ?_ | refine sSeq ?_ | refine sR ?_ | refine qSeqN ?_ | refine sRet ?_)
  refine qEnd ?_
  conv => whnf
  rfl
def owns (h : Int) (q : Pr) : Bool := h != 0 && q.2 == h
theorem c_own1 (q : Pr) (h : Int) : C Try.prog 60 [.agg (encP q), .vptr [eI h]] (.tup [eI q.1, .bool (owns h q)]) := by
  refine fnOk mixed tyOk Try.func60 (code := Try.f60.body.getD .skip) rfl rfl rfl (gC_in ?_)
  repeat (first | (refine oR ?_; (conv => whnf)) | refine kOps ?_ | refine oNil ?_ | refine sSeq ?_ | refine sR ?_ | refine qSeqN ?_ | refine sD ?_ | (apply drRun; exact rfl; exact .inl rfl; (conv => whnf); exact .mk rfl))
  refine drS rfl rfl rfl (fun h1 => ?_) (fun h1 => ?_)
  · rw [show owns h q = (q.2 == h) by simp [owns, h1]]
    repeat (first | refine qSeqN ?_ | refine sRet ?_ | (refine sBT ?_; (conv => whnf)) | exact KPl.mk rfl | (apply drRun; exact rfl; exact .inl rfl; (conv => whnf); exact .mk rfl) | (apply drRun; exact rfl; exact .inr ⟨_, _, _, rfl, rfl, rfl⟩; (conv => whnf); exact .mk rfl) | (apply drRun; exact rfl; exact .inl rfl; (conv => whnf)) | refine drNil ?_)
    refine qEnd ?_
    conv => whnf
    rfl
  · rw [show owns h q = false by simp [owns, h1]]
    repeat (first | refine qSeqN ?_ | refine sRet ?_ | (refine sBF ?_; (conv => whnf)) | exact KPl.mk rfl | (apply drRun; exact rfl; exact .inl rfl; (conv => whnf); exact .mk rfl) | refine dH ?_ | (apply drRun; exact rfl; exact .inl rfl; (conv => whnf)) | refine drNil ?_)
    refine qEnd ?_
    conv => whnf
    rfl
theorem c_gatherP (T : List Pl) (hT : T.length ≤ 1099511627776) : C Try.prog 56 [.fn 64 [.vptr [encT T]], .fn 58 []] (encQ (pairsL T)) := by
  refine fnOk mixed tyOk Try.func56 (code := Try.f56.body.getD .skip) rfl rfl rfl (gC_in ?_)
  have hle := pairsL_le T
  repeat (first | (refine oR ?_; (conv => whnf)) | refine kOps ?_ | refine oNil ?_ | refine sSeq ?_ | refine sR ?_ | refine qSeqN ?_ | refine sBlk ?_)
  refine forIn rfl rfl (it_pairs T hT) (fun i => ⟨tl [(3, .ptr 0 0 0), (4, .ptr 1 0 0)], Ll [(0, .box 90 [.fn 58 []]), (1, .box 68 [.rowf 2]), (2, .rows 75 2 (((pairsL T).take i).map encP))], 22, 3, [], none⟩) (fun _ => True)
    (.trans (.adoptB 1 2 68 75 2 rfl rfl (by decide)) .kp) trivial (fun i z hi hz => ?_) (fun hn => ?_)
  · obtain ⟨q, hq, rfl⟩ := get_map hz
    have hlt := lt_of_get hq
    refine ⟨rfl, rfl, ?_⟩
    repeat (first | (refine oR ?_; (conv => whnf)) | refine kOps ?_ | refine oNil ?_ | refine sR ?_)
    refine qAs ?_
    repeat (first | (refine oR ?_; (conv => whnf)) | refine kOps ?_ | refine sSeq ?_ | refine sR ?_ | refine sBlk ?_)
    (refine oCall rfl (.inl rfl) rfl rfl rfl (.fz [] _) rfl ⟨rfl, c_prs1 q, ?_⟩; (conv => whnf))
    repeat (first | (refine oR ?_; (conv => whnf)) | refine kOps ?_ | refine oNil ?_ | refine sSeq ?_ | refine sR ?_ | refine qSeqN ?_ | refine sT ?_)
    refine ⟨by simp [oneC], roomR (by simp; omega), ?_⟩
    repeat (first | (refine oR ?_; (conv => whnf)) | refine kOps ?_ | refine oNil ?_ | refine qBlkN ?_)
    refine qRndN (.keep _ _ _ _ ⟨rfl, rfl, congrArg (Blk.rows 75 2) ?_, trivial⟩ ⟨rfl, rfl, trivial⟩ rfl rfl) trivial
    obtain ⟨h1, h2⟩ := List.getElem?_eq_some_iff.1 hq
    rw [List.take_succ_eq_append_getElem h1, h2]
    simp [encP]
  · repeat (first | (refine oR ?_; (conv => whnf)) | refine kOps ?_ | refine oNil ?_ | refine sSeq ?_ | refine sR ?_ | refine qSeqN ?_ | refine sRet ?_ | refine qBlkN ?_)
    refine qEnd ?_
    conv => whnf
    rw [List.take_of_length_le (by simp [prItems])]
    rfl
theorem c_prs (T : List Pl) (hT : T.length ≤ 1099511627776) : C Try.prog 46 [encT T] (encQ (pairsL T)) := by
  refine fnOk mixed tyOk Try.func46 (code := Try.f46.body.getD .skip) rfl rfl rfl (gC_in ?_)
  repeat (first | (refine oR ?_; (conv => whnf)) | refine kOps ?_ | refine oNil ?_ | refine sSeq ?_ | refine sR ?_ | refine qSeqN ?_)
  (refine oCall rfl (.inl rfl) rfl rfl rfl (.fz [] _) rfl ⟨rfl, c_pairs T, ?_⟩; (conv => whnf))
  repeat refine kOps ?_
  (refine oCall rfl (.inl rfl) rfl rfl rfl (.fz [] _) rfl ⟨rfl, c_gatherP T hT, ?_⟩; (conv => whnf))
  repeat (first | (refine oR ?_; (conv => whnf)) | refine kOps ?_ | refine oNil ?_ | refine qSeqN ?_ | refine sRet ?_)
  refine qEnd ?_
  conv => whnf
  rfl
def ownedL (T : List Pl) (h : Int) : Nat := (pairsL T).countP (owns h)
theorem c_gatherO (T : List Pl) (h : Int) (hT : T.length ≤ 1099511627776) : C Try.prog 59 [.fn 64 [.vptr [encT T]], .fn 60 [.vptr [eI h]]] (encI (((pairsL T).filter (owns h)).map (·.1))) := by
  refine fnOk mixed tyOk Try.func59 (code := Try.f59.body.getD .skip) rfl rfl rfl (gC_in ?_)
  have hle := pairsL_le T
  repeat (first | (refine oR ?_; (conv => whnf)) | refine kOps ?_ | refine oNil ?_ | refine sSeq ?_ | refine sR ?_ | refine qSeqN ?_ | refine sBlk ?_)
  refine forIn rfl rfl (it_pairs T hT) (fun i => ⟨tl [(3, .ptr 0 0 0), (4, .ptr 1 0 0)], Ll [(0, .box 92 [.fn 60 [.vptr [eI h]]]), (1, .box 43 [.rowf 2]), (2, .rows 3 1 (rI ((((pairsL T).take i).filter (owns h)).map (·.1))))], 22, 3, [], none⟩) (fun _ => True)
    (.trans (.adoptB 1 2 43 3 1 rfl rfl (by decide)) .kp) trivial (fun i z hi hz => ?_) (fun hn => ?_)
  · obtain ⟨q, hq, rfl⟩ := get_map hz
    have hlt := lt_of_get hq
    have hfl := List.length_filter_le (owns h) ((pairsL T).take i)
    rw [List.length_take] at hfl
    obtain ⟨h1, h2⟩ := List.getElem?_eq_some_iff.1 hq
    have htk : (pairsL T).take (i + 1) = (pairsL T).take i ++ [q] := by rw [List.take_succ_eq_append_getElem h1, h2]
    refine ⟨rfl, rfl, ?_⟩
    repeat (first | (refine oR ?_; (conv => whnf)) | refine kOps ?_ | refine oNil ?_ | refine sR ?_)
    refine qAs ?_
    repeat (first | (refine oR ?_; (conv => whnf)) | refine kOps ?_ | refine sSeq ?_ | refine sR ?_ | refine sBlk ?_)
    (refine oCall rfl (.inl rfl) rfl rfl rfl (.fz [] _) rfl ⟨rfl, c_own1 q h, ?_⟩; (conv => whnf))
    repeat (first | (refine oR ?_; (conv => whnf)) | refine kOps ?_ | refine oNil ?_ | refine sSeq ?_ | refine sR ?_ | refine qSeqN ?_)
    refine sC rfl (fun h3 => ?_) (fun h3 => ?_)
    · repeat (first | (refine oR ?_; (conv => whnf)) | refine kOps ?_ | refine sR ?_)
      refine ⟨by simp [oneC], roomI (by simp [rI]; omega), ?_⟩
      repeat (first | (refine oR ?_; (conv => whnf)) | refine kOps ?_ | refine oNil ?_ | refine qBlkN ?_)
      refine qRndN (.keep _ _ _ _ ⟨rfl, rfl, congrArg (Blk.rows 3 1) ?_, trivial⟩ ⟨rfl, rfl, trivial⟩ rfl rfl) trivial
      rw [htk, List.filter_append, List.map_append]
      simp [rI, h3]
    · repeat (first | refine sSkip ?_ | refine qBlkN ?_)
      refine qRndN (.keep _ _ _ _ ⟨rfl, rfl, congrArg (Blk.rows 3 1) ?_, trivial⟩ ⟨rfl, rfl, trivial⟩ rfl rfl) trivial
      rw [htk, List.filter_append, List.map_append]
      simp [rI, h3]
  · repeat (first | (refine oR ?_; (conv => whnf)) | refine kOps ?_ | refine oNil ?_ | refine sSeq ?_ | refine sR ?_ | refine qSeqN ?_ | refine sRet ?_ | refine qBlkN ?_)
    refine qEnd ?_
    conv => whnf
    rw [List.take_of_length_le (by simp [prItems])]
    rfl
theorem c_owned (T : List Pl) (h : Int) (hT : T.length ≤ 1099511627776) : C Try.prog 48 [encT T, eI h] (eI (ownedL T h)) := by
  refine fnOk mixed tyOk Try.func48 (code := Try.f48.body.getD .skip) rfl rfl rfl (gC_in ?_)
  repeat (first | (refine oR ?_; (conv => whnf)) | refine kOps ?_ | refine oNil ?_ | refine sSeq ?_ | refine sR ?_ | refine qSeqN ?_)
  (refine oCall rfl (.inl rfl) rfl rfl rfl (.fz [] _) rfl ⟨rfl, c_pairs T, ?_⟩; (conv => whnf))
  repeat (first | (refine oR ?_; (conv => whnf)) | refine kOps ?_)
  (refine oCall rfl (.inl rfl) rfl rfl rfl (.fz [0] _) rfl ⟨rfl, c_gatherO T h hT, ?_⟩; (conv => whnf))
  repeat (first | (refine oR ?_; (conv => whnf)) | refine kOps ?_ | refine oNil ?_ | refine qSeqN ?_ | refine sRet ?_)
  refine qEnd ?_
  conv => whnf
  exact congrArg (fun n : Nat => eI n) (by rw [List.length_map, List.length_map, ← List.countP_eq_length_filter]; rfl)
end Go.Proofs.Ytcfbhojpemjjpaa
