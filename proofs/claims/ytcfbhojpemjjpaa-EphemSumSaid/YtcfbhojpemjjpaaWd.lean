/- Walks: the road. -/
import Derived.Test.YtcfbhojpemjjpaaWb
set_option linter.unusedVariables false
set_option linter.unusedSimpArgs false
namespace Go.Proofs.Ytcfbhojpemjjpaa
open Go Go.RowKit

theorem c_road (T : List Pl) (k : Int) : C Try.prog 51 [encT T, .int .i64 k] (.fn 61 [.vptr [encT T], .vptr [.int .i64 k]]) := by
  refine fnOk mixed tyOk Try.func51 (code := Try.f51.body.getD .skip) rfl rfl rfl (gC_in ?_)
  repeat (first | (refine oR ?_; (conv => whnf)) | refine kOps ?_ | refine oNil ?_ | refine sSeq ?_ | refine sR ?_ | refine qSeqN ?_ | refine sRet ?_)
  refine qEnd ?_
  conv => whnf
  rfl
theorem qIt {m : Nat} {s : St} (h : s.y = some m ∨ s.y = none) : gQ (itPost m) .ret s := ⟨h⟩
theorem qItN {m : Nat} {s : St} (h : s.y = some m ∨ s.y = none) : gQ (itPost m) .normal s := ⟨h⟩
def homeN (n : Nat) (k : Int) : Nat := (homeW n k).toNat
theorem home_lt {n : Nat} (hn : 0 < n) (hm : n ≤ 1099511627776) (k : Int) : homeW n k = (homeN n k : Int) ∧ homeN n k < n := by
  have hb : ∀ z : Int, -(n : Int) < z.tmod n ∧ z.tmod n < n := fun z => ⟨Int.lt_tmod_of_pos z (by omega), Int.tmod_lt_of_pos z (by omega)⟩
  have key : 0 ≤ homeW n k ∧ homeW n k < n := by
    unfold homeW
    rw [if_neg (by omega)]
    have h1 := hb (W (W (5 * k) + 1))
    split
    · rw [show W ((W (W (5 * k) + 1)).tmod n + n) = (W (W (5 * k) + 1)).tmod n + n from wrapI (by omega) (by omega)]
      omega
    · omega
  unfold homeN
  omega
def roadIx (T : List Pl) (k : Int) (s : Nat) : Nat := (homeN T.length k + s) % T.length
def roadP (T : List Pl) (k : Int) : List (Nat × Pl) := (List.range T.length).map fun s => (roadIx T k s, T[roadIx T k s]?.getD ⟨0, 0, 0⟩)
def encR (q : Nat × Pl) : List AV := [.int .i64 (q.1 : Int), .agg q.2.enc]
def roadL (T : List Pl) (k : Int) : List (List AV) := (roadP T k).map encR
theorem drop_of {α : Type} {l : List α} {i : Nat} {x : α} (h : l[i]? = some x) : l.drop i = x :: l.drop (i + 1) := by
  obtain ⟨h1, h2⟩ := List.getElem?_eq_some_iff.1 h
  rw [List.drop_eq_getElem_cons h1, h2]
theorem it_road (T : List Pl) (k : Int) (hT : T.length ≤ 1099511627776) : IT Try.prog 61 [.vptr [encT T], .vptr [.int .i64 k]] (roadL T k) := by
  refine itOk mixed tyOk Try.func61 (code := Try.f61.body.getD .skip) rfl rfl rfl rfl (gC_in ?_)
  repeat (first | (refine oR ?_; (conv => whnf)) | refine kOps ?_ | refine oNil ?_ | refine sSeq ?_ | refine sR ?_ | refine qSeqN ?_)
  refine oCall rfl (.inl rfl) rfl rfl rfl (.fz [] (.int .i64 (homeW (T.map Pl.enc).length k))) rfl ⟨rfl, c_home1 _ _, ?_⟩
  conv => whnf
  repeat (first | (refine oR ?_; (conv => whnf)) | refine kOps ?_ | refine oNil ?_ | refine sSeq ?_ | refine sR ?_ | refine qSeqN ?_ | refine sBlk ?_)
  have hlen : (T.map Pl.enc).length = T.length := List.length_map _
  refine sLoop (fun st => st ≤ T.length) (fun st => ⟨tl [(0, .yld), (1, .vptr [encT T]), (4, .int .i64 (T.length : Int)), (5, .int .i64 (homeW T.length k)), (13, .int .i64 (T.length : Int)), (14, .int .i64 (st : Int))], Ll [], 31, 0, [], some st⟩) (fun st => T.length - st) 0
    (.keep [(0, .yld), (1, .vptr [encT T]), (4, .int .i64 (T.length : Int)), (5, .int .i64 (homeW T.length k)), (13, .int .i64 (T.length : Int)), (14, .int .i64 ((0 : Nat) : Int))] [] [] 0 trivial
      ⟨rfl, rfl, congrArg (fun n : Nat => AV.int .i64 (n : Int)) hlen, congrArg (fun n : Nat => AV.int .i64 (homeW n k)) hlen, congrArg (fun n : Nat => AV.int .i64 (n : Int)) hlen, rfl, trivial⟩ rfl rfl) (Nat.zero_le _) fun st hst => ?_
  repeat (first | (refine oR ?_; (conv => whnf)) | refine kOps ?_ | refine oNil ?_ | refine sSeq ?_ | refine sR ?_ | refine qSeqN ?_)
  refine sC rfl (fun h1 => ?_) (fun h1 => ?_)
  · have hlt : st < T.length := by have := dT h1; omega
    obtain ⟨hh, hhl⟩ := home_lt (n := T.length) (by omega) hT k
    have e1 : W (homeW T.length k + (st : Int)) = homeW T.length k + st := wrapI (by omega) (by omega)
    have e2 : (W (homeW T.length k + (st : Int))).tmod T.length = (roadIx T k st : Int) := by
      rw [e1, hh]
      unfold roadIx
      rw [← Int.natCast_add, Int.ofNat_tmod]
    have hix : roadIx T k st < T.length := Nat.mod_lt _ (by omega)
    have hx : T[roadIx T k st]? = some T[roadIx T k st] := List.getElem?_eq_getElem hix
    repeat (first | (refine oR ?_; (conv => whnf)) | refine kOps ?_ | refine oNil ?_ | refine sSeq ?_ | refine sR ?_ | refine qSeqN ?_ | refine sSkip ?_ | refine sBlk ?_)
    refine ⟨by omega, ?_⟩
    repeat (first | (refine oR ?_; (conv => whnf)) | refine kOps ?_ | refine oNil ?_ | refine sSeq ?_ | refine sR ?_ | refine qSeqN ?_)
    refine ⟨_, _, e2, enc_get hx, ?_⟩
    conv => whnf
    repeat (first | (refine oR ?_; (conv => whnf)) | refine kOps ?_)
    have hitem : (roadL T k)[st]? = some [.int .i64 (roadIx T k st : Int), .agg (T[roadIx T k st]).enc] := by
      simp [roadL, roadP, encR, hlt, hx]
    refine oYield rfl (.inl rfl) rfl rfl rfl («as» := [.int .i64 (roadIx T k st : Int), .agg (T[roadIx T k st]).enc]) (congrArg (fun z => [AV.int .i64 z, AV.agg (T[roadIx T k st]).enc]) e2) ?_
    refine ⟨st, _, rfl, hitem, rfl, rfl, kY ?_, kY ?_⟩
    · repeat (first | (refine oR ?_; (conv => whnf)) | refine kOps ?_ | refine oNil ?_ | refine sR ?_ | refine qSeqN ?_ | refine sSkip ?_ | refine sF ?_ | refine qBlkN ?_)
      exact qLoopN (st + 1) (.keep [(0, .yld), (1, .vptr [encT T]), (4, .int .i64 (T.length : Int)), (5, .int .i64 (homeW T.length k)), (13, .int .i64 (T.length : Int)), (14, .int .i64 ((st + 1 : Nat) : Int))] [] [] 0 trivial
        ⟨rfl, rfl, rfl, rfl, rfl, congrArg (AV.int .i64) (wrapS hlt hT), trivial⟩ rfl rfl) (show st + 1 ≤ T.length by omega) (show T.length - (st + 1) < T.length - st by omega)
    · repeat (first | (refine oR ?_; (conv => whnf)) | refine kOps ?_ | refine oNil ?_ | refine qSeqN ?_ | refine sT ?_ | refine sRet ?_ | refine qSeqR ?_ | refine qBlkR ?_ | refine qLoopR ?_)
      exact qIt (.inr rfl)
  · have : st = T.length := by have := dF h1; omega
    subst this
    repeat (first | refine sExit ?_ | refine qSeqE ?_ | refine qX ?_ | refine qLoopE ?_)
    refine qItN (.inl ?_)
    show some T.length = some (roadL T k).length
    simp [roadL, roadP]
end Go.Proofs.Ytcfbhojpemjjpaa
