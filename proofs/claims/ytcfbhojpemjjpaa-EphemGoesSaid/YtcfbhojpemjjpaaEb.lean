/- Walks: Set, Get, Without, by the program and by the document; pairs by the document. -/
import Derived.Test.YtcfbhojpemjjpaaEa
import Derived.Test.YtcfbhojpemjjpaaPc
set_option linter.unusedVariables false
set_option linter.unusedSimpArgs false
namespace Go.Proofs.Ytcfbhojpemjjpaa
open Go Go.RowKit

theorem pairsL_keys (T : List Pl) : keysL T = (pairsL T).map (·.1) := by
  unfold keysL pairsL fullT
  rw [List.map_map]
  rfl
theorem Rt.look_pair {T : List Pl} (h : Rt T) {q : Pr} (hq : q ∈ pairsL T) : look T q.1 = some q.2 := by
  unfold pairsL fullT at hq
  obtain ⟨p, hp, rfl⟩ := List.mem_map.1 hq
  obtain ⟨h1, h2⟩ := List.mem_filter.1 hp
  obtain ⟨i, hi⟩ := List.mem_iff_getElem?.1 h1
  exact h.look_some hi ⟨by simpa using h2, rfl⟩
theorem Rt.get_pair {T : List Pl} (h : Rt T) {q : Pr} (hq : q ∈ pairsL T) : getL T q.1 = (q.2, 0) := h.get_some (h.look_pair hq)
theorem c_eget (T : List Pl) (k : Int) (h : Rt T) : C Try.prog 40 [encT T, eI k] (eGet (getL T k)) := by
  refine fnOk mixed tyOk Try.func40 (code := Try.f40.body.getD .skip) rfl rfl rfl (gC_in ?_)
  repeat (first | (refine oR ?_; (conv => whnf)) | refine kOps ?_ | refine oNil ?_ | refine sSeq ?_ | refine sR ?_ | refine qSeqN ?_)
  (refine oCall rfl (.inl rfl) rfl rfl rfl (.fz [] _) rfl ⟨rfl, r_get h k, ?_⟩; (conv => whnf))
  repeat (first | (refine oR ?_; (conv => whnf)) | refine kOps ?_ | refine oNil ?_ | refine qSeqN ?_ | refine sRet ?_)
  refine qEnd ?_
  conv => whnf
  rfl
theorem c_get11 (T : List Pl) (k : Int) (h : Rt T) : C Try.prog 41 [encT T, eI k] (eGet (getL T k)) := by
  refine fnOk mixed tyOk Try.func41 (code := Try.f41.body.getD .skip) rfl rfl rfl (gC_in ?_)
  repeat (first | (refine oR ?_; (conv => whnf)) | refine kOps ?_ | refine oNil ?_ | refine sSeq ?_ | refine sR ?_ | refine qSeqN ?_)
  (refine oCall rfl (.inl rfl) rfl rfl rfl (.fz [] _) rfl ⟨rfl, c_get T k h.hT, ?_⟩; (conv => whnf))
  repeat (first | (refine oR ?_; (conv => whnf)) | refine kOps ?_ | refine oNil ?_ | refine qSeqN ?_ | refine sRet ?_)
  refine qEnd ?_
  conv => whnf
  rfl
def setL (T : List Pl) (k v : Int) : List Pl × Int × Int :=
  if k = 0 then (T, 0, 2) else if v = 0 then ((dropL T k).1, (getL T k).1, 0) else if (putL T k v).2 = 0 then ((putL T k v).1, (getL T k).1, 0) else (T, 0, 8)
theorem drop_old (T : List Pl) (k : Int) : (dropL T k).2.1 = (getL T k).1 := by
  unfold dropL getL dropAt getAt
  split <;> rfl
theorem Rt.put_2 {T : List Pl} (h : Rt T) (k v : Int) : (putL T k v).2 = 0 ∨ putL T k v = (T, 8) := by
  rcases h.put_ok k v with ⟨h1, _⟩ | ⟨h1, _⟩
  · exact .inl h1
  · exact .inr h1
theorem c_eset (T : List Pl) (k v : Int) (h : Rt T) : C Try.prog 38 [encT T, eI k, eI v] (eDrop (setL T k v)) := by
  refine fnOk mixed tyOk Try.func38 (code := Try.f38.body.getD .skip) rfl rfl rfl (gC_in ?_)
  repeat (first | (refine oR ?_; (conv => whnf)) | refine kOps ?_ | refine oNil ?_ | refine sSeq ?_ | refine sR ?_ | refine qSeqN ?_)
  refine sC rfl (fun h1 => ?_) (fun h1 => ?_)
  · have h1 : k = 0 := by simpa using h1
    rw [setL, if_pos h1]
    repeat (first | (refine oR ?_; (conv => whnf)) | refine kOps ?_ | refine oNil ?_ | refine sSeq ?_ | refine sR ?_ | refine qSeqN ?_ | refine sRet ?_ | refine qSeqR ?_)
    refine qEnd ?_
    conv => whnf
    rfl
  · have h1 : ¬ k = 0 := by simpa using h1
    rw [setL, if_neg h1]
    repeat (first | (refine oR ?_; (conv => whnf)) | refine kOps ?_ | refine oNil ?_ | refine sSeq ?_ | refine sR ?_ | refine qSeqN ?_ | refine sSkip ?_)
    refine sC rfl (fun h2 => ?_) (fun h2 => ?_)
    · have h2 : v = 0 := by simpa using h2
      rw [if_pos h2, ← drop_old]
      repeat (first | (refine oR ?_; (conv => whnf)) | refine kOps ?_ | refine sSeq ?_ | refine sR ?_)
      (refine oCall rfl (.inl rfl) rfl rfl rfl (.fz [] _) rfl ⟨rfl, r_drop h k, ?_⟩; (conv => whnf))
      repeat (first | (refine oR ?_; (conv => whnf)) | refine kOps ?_ | refine oNil ?_ | refine sSeq ?_ | refine sR ?_ | refine qSeqN ?_ | refine sRet ?_ | refine qSeqR ?_)
      refine qEnd ?_
      conv => whnf
      rfl
    · have h2 : ¬ v = 0 := by simpa using h2
      rw [if_neg h2]
      repeat (first | (refine oR ?_; (conv => whnf)) | refine kOps ?_ | refine sSeq ?_ | refine sR ?_ | refine qSeqN ?_ | refine sSkip ?_)
      (refine oCall rfl (.inl rfl) rfl rfl rfl (.fz [] _) rfl ⟨rfl, r_get h k, ?_⟩; (conv => whnf))
      repeat (first | (refine oR ?_; (conv => whnf)) | refine kOps ?_ | refine oNil ?_ | refine sSeq ?_ | refine sR ?_ | refine qSeqN ?_)
      have hp := r_put h k v
      rcases h.put_2 k v with h3 | h3
      · rw [if_pos h3]
        rw [show ePut (putL T k v) = .tup [encT (putL T k v).1, eI 0] by rw [← h3]] at hp
        (refine oCall rfl (.inl rfl) rfl rfl rfl (.fz [] _) rfl ⟨rfl, hp, ?_⟩; (conv => whnf))
        repeat (first | (refine oR ?_; (conv => whnf)) | refine kOps ?_ | refine oNil ?_ | refine sSeq ?_ | refine sR ?_ | refine qSeqN ?_ | refine sSkip ?_ | refine sF ?_ | refine sRet ?_)
        refine qEnd ?_
        conv => whnf
        rfl
      · rw [h3, if_neg (by simp)]
        rw [h3] at hp
        (refine oCall rfl (.inl rfl) rfl rfl rfl (.fz [] _) rfl ⟨rfl, hp, ?_⟩; (conv => whnf))
        repeat (first | (refine oR ?_; (conv => whnf)) | refine kOps ?_ | refine oNil ?_ | refine sSeq ?_ | refine sR ?_ | refine qSeqN ?_ | refine sT ?_ | refine sRet ?_)
        refine qEnd ?_
        conv => whnf
        rfl
theorem c_set11 (T : List Pl) (k v : Int) (h : Rt T) : C Try.prog 39 [encT T, eI k, eI v] (eDrop (setL T k v)) := by
  refine fnOk mixed tyOk Try.func39 (code := Try.f39.body.getD .skip) rfl rfl rfl (gC_in ?_)
  repeat (first | (refine oR ?_; (conv => whnf)) | refine kOps ?_ | refine oNil ?_ | refine sSeq ?_ | refine sR ?_ | refine qSeqN ?_)
  refine sC rfl (fun h1 => ?_) (fun h1 => ?_)
  · have h1 : k = 0 := by simpa using h1
    rw [setL, if_pos h1]
    repeat (first | (refine oR ?_; (conv => whnf)) | refine kOps ?_ | refine oNil ?_ | refine sSeq ?_ | refine sR ?_ | refine qSeqN ?_ | refine sRet ?_ | refine qSeqR ?_)
    refine qEnd ?_
    conv => whnf
    rfl
  · have h1 : ¬ k = 0 := by simpa using h1
    rw [setL, if_neg h1]
    repeat (first | (refine oR ?_; (conv => whnf)) | refine kOps ?_ | refine sSeq ?_ | refine sR ?_ | refine qSeqN ?_ | refine sSkip ?_)
    (refine oCall rfl (.inl rfl) rfl rfl rfl (.fz [] _) rfl ⟨rfl, c_get T k h.hT, ?_⟩; (conv => whnf))
    repeat (first | (refine oR ?_; (conv => whnf)) | refine kOps ?_ | refine oNil ?_ | refine sSeq ?_ | refine sR ?_ | refine qSeqN ?_)
    refine sC rfl (fun h2 => ?_) (fun h2 => ?_)
    · have h2 : v = 0 := by simpa using h2
      rw [if_pos h2]
      repeat (first | (refine oR ?_; (conv => whnf)) | refine kOps ?_ | refine sSeq ?_ | refine sR ?_)
      (refine oCall rfl (.inl rfl) rfl rfl rfl (.fz [] _) rfl ⟨rfl, c_drop T k h.hT, ?_⟩; (conv => whnf))
      repeat (first | (refine oR ?_; (conv => whnf)) | refine kOps ?_ | refine oNil ?_ | refine sSeq ?_ | refine sR ?_ | refine qSeqN ?_ | refine sRet ?_ | refine qSeqR ?_)
      refine qEnd ?_
      conv => whnf
      rfl
    · have h2 : ¬ v = 0 := by simpa using h2
      rw [if_neg h2]
      repeat (first | (refine oR ?_; (conv => whnf)) | refine kOps ?_ | refine sSeq ?_ | refine sR ?_ | refine qSeqN ?_ | refine sSkip ?_)
      have hp := c_put T k v h.hT
      rcases h.put_2 k v with h3 | h3
      · rw [if_pos h3]
        rw [show ePut (putAt T (slotL T k) k v) = .tup [encT (putL T k v).1, eI 0] by rw [← h3]] at hp
        (refine oCall rfl (.inl rfl) rfl rfl rfl (.fz [] _) rfl ⟨rfl, hp, ?_⟩; (conv => whnf))
        repeat (first | (refine oR ?_; (conv => whnf)) | refine kOps ?_ | refine oNil ?_ | refine sSeq ?_ | refine sR ?_ | refine qSeqN ?_ | refine sSkip ?_ | refine sF ?_ | refine sRet ?_)
        refine qEnd ?_
        conv => whnf
        rfl
      · rw [h3, if_neg (by simp)]
        rw [show putAt T (slotL T k) k v = (T, 8) from h3] at hp
        (refine oCall rfl (.inl rfl) rfl rfl rfl (.fz [] _) rfl ⟨rfl, hp, ?_⟩; (conv => whnf))
        repeat (first | (refine oR ?_; (conv => whnf)) | refine kOps ?_ | refine oNil ?_ | refine sSeq ?_ | refine sR ?_ | refine qSeqN ?_ | refine sT ?_ | refine sRet ?_ | refine qSeqR ?_)
        refine qEnd ?_
        conv => whnf
        rfl
/-- Without some keys. -/
def woGo : List Int → List Pl → List Int → List Pl × List Int
  | [], T, o => (T, o)
  | k :: l, T, o => match look T k with
    | some v => woGo l (dropL T k).1 (o ++ [v])
    | none => woGo l T o
abbrev eWo (r : List Pl × List Int) : AV := .tup [encT r.1, encI r.2]
theorem rI_app (l : List Int) (n : Int) : rI (l ++ [n]) = rI l ++ [[eI n]] := by simp [rI]
theorem c_ewo (T : List Pl) (l : List Int) (h : Rt T) (hl : l.length ≤ 1099511627776) : C Try.prog 42 [encT T, encI l] (eWo (woGo l T [])) := by
  refine fnOk mixed tyOk Try.func42 (code := Try.f42.body.getD .skip) rfl rfl rfl (gC_in ?_)
  have hlen : (l.map fun n => [AV.int .i64 n]).length = l.length := List.length_map _
  repeat (first | (refine oR ?_; (conv => whnf)) | refine kOps ?_ | refine oNil ?_ | refine sSeq ?_ | refine sR ?_ | refine qSeqN ?_ | refine sBlk ?_)
  refine sLoop (fun q : Nat × List Pl × List Int => q.1 ≤ l.length ∧ Rt q.2.1 ∧ q.2.2.length ≤ q.1 ∧ woGo (l.drop q.1) q.2.1 q.2.2 = woGo l T []) (fun q => ⟨tl [(4, encT q.2.1), (5, .rowf 0), (12, encI l), (13, eI l.length), (14, eI (q.1 : Int))], Ll [(0, .rows 3 1 (rI q.2.2))], 35, 1, [], none⟩) (fun q => l.length - q.1) (0, T, [])
    (.trans (.adopt 5 0 3 1 rfl rfl (by decide)) (.keep _ _ _ _ ⟨rfl, trivial⟩ ⟨rfl, rfl, rfl, congrArg (fun n : Nat => eI n) hlen, rfl, trivial⟩ rfl rfl)) ⟨Nat.zero_le _, h, by simp, rfl⟩ fun q hq => ?_
  obtain ⟨i, T', o⟩ := q
  obtain ⟨hi, h', ho, hgo⟩ := hq
  simp only at hi h' ho hgo
  repeat (first | (refine oR ?_; (conv => whnf)) | refine kOps ?_ | refine oNil ?_ | refine sSeq ?_ | refine sR ?_ | refine qSeqN ?_)
  refine sC rfl (fun h1 => ?_) (fun h1 => ?_)
  · have hlt : i < l.length := by have := dT h1; omega
    obtain ⟨k, hk⟩ := get_lt hlt
    rw [drop_of hk, woGo] at hgo
    repeat (first | (refine oR ?_; (conv => whnf)) | refine sSeq ?_ | refine sR ?_ | refine qSeqN ?_ | refine sSkip ?_ | refine sBlk ?_)
    refine ⟨i, _, rfl, encI_get hk, ?_⟩
    conv => whnf
    repeat (first | (refine oR ?_; (conv => whnf)) | refine kOps ?_ | refine oNil ?_ | refine sSeq ?_ | refine sR ?_ | refine qSeqN ?_)
    cases hlk : look T' k with
    | none =>
      rw [hlk] at hgo
      (refine oCall rfl (.inl rfl) rfl rfl rfl (.fz [] _) rfl ⟨rfl, q_drop h' (h'.drop_none hlk), ?_⟩; (conv => whnf))
      repeat (first | (refine oR ?_; (conv => whnf)) | refine kOps ?_ | refine oNil ?_ | refine sSeq ?_ | refine sR ?_ | refine qSeqN ?_ | refine sSkip ?_ | refine sF ?_ | refine qBlkN ?_)
      exact qLoopN (i + 1, T', o) .kp ⟨by simp only; omega, h', by simp only; omega, hgo⟩ (by simp only; omega)
    | some v =>
      rw [hlk] at hgo
      obtain ⟨B, hB, hBr, _, _, _⟩ := h'.drop_ex hlk
      have hgo : woGo (l.drop (i + 1)) (dropL T' k).1 (o ++ [v]) = _ := hgo
      rw [hB] at hgo
      (refine oCall rfl (.inl rfl) rfl rfl rfl (.fz [] _) rfl ⟨rfl, q_drop h' hB, ?_⟩; (conv => whnf))
      repeat (first | (refine oR ?_; (conv => whnf)) | refine kOps ?_ | refine oNil ?_ | refine sSeq ?_ | refine sR ?_ | refine qSeqN ?_ | refine sT ?_)
      refine ⟨by simp [oneC], roomI (by simp [rI]; omega), ?_⟩
      repeat (first | (refine oR ?_; (conv => whnf)) | refine kOps ?_ | refine oNil ?_ | refine sR ?_ | refine qSeqN ?_ | refine qBlkN ?_)
      exact qLoopN (i + 1, B, o ++ [v]) (.keep _ _ _ _ ⟨congrArg (Blk.rows 3 1) (rI_app o v).symm, trivial⟩ ⟨rfl, rfl, rfl, rfl, congrArg eI (wrapS hlt hl), trivial⟩ rfl rfl) ⟨by simp only; omega, hBr, by simp only [List.length_append, List.length_cons, List.length_nil]; omega, hgo⟩ (by simp only; omega)
  · have hge : l.length ≤ i := by have := dF h1; omega
    rw [List.drop_eq_nil_of_le hge, woGo] at hgo
    rw [← hgo]
    repeat (first | (refine oR ?_; (conv => whnf)) | refine kOps ?_ | refine oNil ?_ | refine sSeq ?_ | refine sR ?_ | refine qSeqN ?_ | refine sRet ?_ | refine sExit ?_ | refine qSeqE ?_ | refine qX ?_ | refine qLoopE ?_)
    refine qEnd ?_
    conv => whnf
    rfl
theorem c_wo11 (T : List Pl) (l : List Int) (h : Rt T) (hl : l.length ≤ 1099511627776) : C Try.prog 43 [encT T, encI l] (eWo (woGo l T [])) := by
  refine fnOk mixed tyOk Try.func43 (code := Try.f43.body.getD .skip) rfl rfl rfl (gC_in ?_)
  repeat (first | (refine oR ?_; (conv => whnf)) | refine kOps ?_ | refine oNil ?_ | refine sSeq ?_ | refine sR ?_ | refine qSeqN ?_ | refine sBlk ?_)
  refine sLoop (fun q : Nat × List Pl × List Int => q.1 ≤ l.length ∧ Rt q.2.1 ∧ q.2.2.length ≤ q.1 ∧ woGo (l.drop q.1) q.2.1 q.2.2 = woGo l T []) (fun q => ⟨tl [(0, encT q.2.1), (1, encI l), (6, .rowf 0), (7, eI (q.1 : Int))], Ll [(0, .rows 3 1 (rI q.2.2))], 37, 1, [], none⟩) (fun q => l.length - q.1) (0, T, []) .kp ⟨Nat.zero_le _, h, by simp, rfl⟩ fun q hq => ?_
  obtain ⟨i, T', o⟩ := q
  obtain ⟨hi, h', ho, hgo⟩ := hq
  simp only at hi h' ho hgo
  repeat (first | (refine oR ?_; (conv => whnf)) | refine kOps ?_ | refine oNil ?_ | refine sSeq ?_ | refine sR ?_ | refine qSeqN ?_)
  refine sC rfl (fun h1 => ?_) (fun h1 => ?_)
  · have hlt : i < l.length := by have := dT h1; simpa using this
    obtain ⟨k, hk⟩ := get_lt hlt
    rw [drop_of hk, woGo] at hgo
    repeat (first | (refine oR ?_; (conv => whnf)) | refine kOps ?_ | refine sSeq ?_ | refine sR ?_ | refine qSeqN ?_ | refine sSkip ?_ | refine sBlk ?_)
    refine ⟨i, _, rfl, encI_get hk, ?_⟩
    conv => whnf
    repeat (first | (refine oR ?_; (conv => whnf)) | refine kOps ?_)
    have hc := c_drop T' k h'.hT
    cases hlk : look T' k with
    | none =>
      rw [hlk] at hgo
      rw [show dropAt T' (findL T' k) = (T', 0, 9) from h'.drop_none hlk] at hc
      (refine oCall rfl (.inl rfl) rfl rfl rfl (.fz [] _) rfl ⟨rfl, hc, ?_⟩; (conv => whnf))
      repeat (first | (refine oR ?_; (conv => whnf)) | refine kOps ?_ | refine oNil ?_ | refine sSeq ?_ | refine sR ?_ | refine qSeqN ?_ | refine sSkip ?_ | refine sF ?_ | refine qBlkN ?_)
      exact qLoopN (i + 1, T', o) .kp ⟨by simp only; omega, h', by simp only; omega, hgo⟩ (by simp only; omega)
    | some v =>
      rw [hlk] at hgo
      obtain ⟨B, hB, hBr, _, _, _⟩ := h'.drop_ex hlk
      have hgo : woGo (l.drop (i + 1)) (dropL T' k).1 (o ++ [v]) = _ := hgo
      rw [hB] at hgo
      rw [show dropAt T' (findL T' k) = (B, v, 0) from hB] at hc
      (refine oCall rfl (.inl rfl) rfl rfl rfl (.fz [] _) rfl ⟨rfl, hc, ?_⟩; (conv => whnf))
      repeat (first | (refine oR ?_; (conv => whnf)) | refine kOps ?_ | refine oNil ?_ | refine sSeq ?_ | refine sR ?_ | refine qSeqN ?_ | refine sT ?_)
      refine ⟨by simp [oneC], roomI (by simp [rI]; omega), ?_⟩
      repeat (first | (refine oR ?_; (conv => whnf)) | refine kOps ?_ | refine oNil ?_ | refine sR ?_ | refine qSeqN ?_ | refine qBlkN ?_)
      exact qLoopN (i + 1, B, o ++ [v]) (.keep _ _ _ _ ⟨congrArg (Blk.rows 3 1) (rI_app o v).symm, trivial⟩ ⟨rfl, rfl, rfl, congrArg eI (wrapS hlt hl), trivial⟩ rfl rfl) ⟨by simp only; omega, hBr, by simp only [List.length_append, List.length_cons, List.length_nil]; omega, hgo⟩ (by simp only; omega)
  · have hge : l.length ≤ i := by have := dF h1; simpa using this
    rw [List.drop_eq_nil_of_le hge, woGo] at hgo
    rw [← hgo]
    repeat (first | (refine oR ?_; (conv => whnf)) | refine kOps ?_ | refine oNil ?_ | refine sSeq ?_ | refine sR ?_ | refine qSeqN ?_ | refine sRet ?_ | refine sExit ?_ | refine qSeqE ?_ | refine qX ?_ | refine qLoopE ?_)
    refine qEnd ?_
    conv => whnf
    rfl
theorem c_lpairs (l : List Pr) (hl : l.length ≤ 1099511627776) : C Try.prog 45 [encQ l] (encQ l) := by
  refine fnOk mixed tyOk Try.func45 (code := Try.f45.body.getD .skip) rfl rfl rfl (gC_in ?_)
  repeat (first | (refine oR ?_; (conv => whnf)) | refine kOps ?_ | refine oNil ?_ | refine sSeq ?_ | refine sR ?_ | refine qSeqN ?_ | refine sBlk ?_)
  refine sLoop (fun i => i ≤ l.length) (fun i => ⟨tl [(0, encQ l), (3, .rowf 0), (4, eI (i : Int))], Ll [(0, .rows 73 2 ((l.take i).map encP))], 20, 1, [], none⟩) (fun i => l.length - i) 0 .kp (Nat.zero_le _) fun i hi => ?_
  repeat (first | (refine oR ?_; (conv => whnf)) | refine kOps ?_ | refine oNil ?_ | refine sSeq ?_ | refine sR ?_ | refine qSeqN ?_)
  refine sC rfl (fun h1 => ?_) (fun h1 => ?_)
  · have hlt : i < l.length := by have := dT h1; simpa using this
    have hx : l[i]? = some l[i] := List.getElem?_eq_getElem hlt
    have hk := List.take_succ_eq_append_getElem hlt
    generalize l[i] = p at hx hk
    repeat (first | (refine oR ?_; (conv => whnf)) | refine kOps ?_ | refine sSeq ?_ | refine sR ?_ | refine qSeqN ?_ | refine sSkip ?_ | refine sBlk ?_)
    refine ⟨i, _, rfl, encP_get hx, ?_⟩
    conv => whnf
    repeat (first | (refine oR ?_; (conv => whnf)) | refine kOps ?_)
    refine ⟨by simp [oneC], roomR (by simp; omega), ?_⟩
    repeat (first | (refine oR ?_; (conv => whnf)) | refine kOps ?_ | refine oNil ?_ | refine sR ?_ | refine qSeqN ?_ | refine qBlkN ?_)
    exact qLoopN (i + 1) (.keep _ _ _ _ ⟨congrArg (Blk.rows 73 2) (by rw [hk]; simp [encP]), trivial⟩ ⟨rfl, rfl, congrArg eI (wrapS hlt hl), trivial⟩ rfl rfl) hlt (by omega)
  · have hge : l.length ≤ i := by have := dF h1; simpa using this
    repeat (first | (refine oR ?_; (conv => whnf)) | refine kOps ?_ | refine oNil ?_ | refine sSeq ?_ | refine sR ?_ | refine qSeqN ?_ | refine sRet ?_ | refine sExit ?_ | refine qSeqE ?_ | refine qX ?_ | refine qLoopE ?_)
    refine qEnd ?_
    conv => whnf
    rw [List.take_of_length_le hge]
    rfl
theorem c_pairs11 (T : List Pl) (h : Rt T) : C Try.prog 47 [encT T] (encQ (pairsL T)) := by
  refine fnOk mixed tyOk Try.func47 (code := Try.f47.body.getD .skip) rfl rfl rfl (gC_in ?_)
  have hle := pairsL_le T
  have hT := h.hT
  have hc := c_keys T h.hT
  rw [pairsL_keys] at hc
  repeat (first | (refine oR ?_; (conv => whnf)) | refine kOps ?_ | refine oNil ?_ | refine sSeq ?_ | refine sR ?_ | refine qSeqN ?_)
  (refine oCall rfl (.inl rfl) rfl rfl rfl (.fz [] _) rfl ⟨rfl, hc, ?_⟩; (conv => whnf))
  repeat (first | (refine oR ?_; (conv => whnf)) | refine kOps ?_ | refine oNil ?_ | refine sSeq ?_ | refine sR ?_ | refine qSeqN ?_ | refine sBlk ?_)
  refine sLoop (fun i => i ≤ (pairsL T).length) (fun i => ⟨tl [(0, encT T), (3, .rowf 0), (4, encI ((pairsL T).map (·.1))), (5, eI (i : Int))], Ll [(0, .rows 73 2 (((pairsL T).take i).map encP))], 36, 1, [], none⟩) (fun i => (pairsL T).length - i) 0 .kp (Nat.zero_le _) fun i hi => ?_
  repeat (first | (refine oR ?_; (conv => whnf)) | refine kOps ?_ | refine oNil ?_ | refine sSeq ?_ | refine sR ?_ | refine qSeqN ?_)
  refine sC rfl (fun h1 => ?_) (fun h1 => ?_)
  · have hlt : i < (pairsL T).length := by have := dT h1; simpa using this
    have hx : (pairsL T)[i]? = some (pairsL T)[i] := List.getElem?_eq_getElem hlt
    have hk := List.take_succ_eq_append_getElem hlt
    generalize (pairsL T)[i] = q at hx hk
    have hx1 : ((pairsL T).map (·.1))[i]? = some q.1 := by rw [List.getElem?_map, hx]; rfl
    have hg := c_get T q.1 h.hT
    rw [show getAt T (findL T q.1) = (q.2, 0) from h.get_pair (List.mem_of_getElem? hx)] at hg
    repeat (first | (refine oR ?_; (conv => whnf)) | refine kOps ?_ | refine sSeq ?_ | refine sR ?_ | refine qSeqN ?_ | refine sSkip ?_ | refine sBlk ?_)
    refine ⟨i, _, rfl, encI_get hx1, ?_⟩
    conv => whnf
    repeat (first | (refine oR ?_; (conv => whnf)) | refine kOps ?_)
    (refine oCall rfl (.inl rfl) rfl rfl rfl (.fz [] _) rfl ⟨rfl, hg, ?_⟩; (conv => whnf))
    repeat (first | (refine oR ?_; (conv => whnf)) | refine kOps ?_ | refine oNil ?_ | refine sR ?_ | refine qSeqN ?_)
    refine ⟨i, _, rfl, encI_get hx1, ?_⟩
    conv => whnf
    repeat (first | (refine oR ?_; (conv => whnf)) | refine kOps ?_)
    refine ⟨by simp [oneC], roomR (by simp; omega), ?_⟩
    repeat (first | (refine oR ?_; (conv => whnf)) | refine kOps ?_ | refine oNil ?_ | refine sR ?_ | refine qSeqN ?_ | refine qBlkN ?_)
    exact qLoopN (i + 1) (.keep _ _ _ _ ⟨congrArg (Blk.rows 73 2) (by rw [hk]; simp [encP]), trivial⟩ ⟨rfl, rfl, rfl, congrArg eI (wrapS hlt (by omega)), trivial⟩ rfl rfl) hlt (by omega)
  · have hge : (pairsL T).length ≤ i := by have := dF h1; simpa using this
    repeat (first | (refine oR ?_; (conv => whnf)) | refine kOps ?_ | refine oNil ?_ | refine sSeq ?_ | refine sR ?_ | refine qSeqN ?_ | refine sRet ?_ | refine sExit ?_ | refine qSeqE ?_ | refine qX ?_ | refine qLoopE ?_)
    refine qEnd ?_
    conv => whnf
    rw [List.take_of_length_le hge]
    rfl
theorem cntP_snoc {l : List Pr} {f : Pr → Bool} {i : Nat} {q : Pr} (h : l[i]? = some q) : (l.take (i + 1)).countP f = if f q then (l.take i).countP f + 1 else (l.take i).countP f := by
  obtain ⟨h1, rfl⟩ := List.getElem?_eq_some_iff.1 h
  rw [List.take_succ_eq_append_getElem h1, List.countP_append, List.countP_singleton]
  split <;> rfl
theorem c_owned11 (T : List Pl) (v : Int) (h : Rt T) : C Try.prog 49 [encT T, eI v] (eI (ownedL T v)) := by
  refine fnOk mixed tyOk Try.func49 (code := Try.f49.body.getD .skip) rfl rfl rfl (gC_in ?_)
  have hle := pairsL_le T
  have hT := h.hT
  repeat (first | (refine oR ?_; (conv => whnf)) | refine kOps ?_ | refine oNil ?_ | refine sSeq ?_ | refine sR ?_ | refine qSeqN ?_)
  (refine oCall rfl (.inl rfl) rfl rfl rfl (.fz [] _) rfl ⟨rfl, c_pairs11 T h, ?_⟩; (conv => whnf))
  repeat (first | (refine oR ?_; (conv => whnf)) | refine kOps ?_ | refine oNil ?_ | refine sSeq ?_ | refine sR ?_ | refine qSeqN ?_ | refine sBlk ?_)
  refine sLoop (fun i => i ≤ (pairsL T).length) (fun i => ⟨tl [(1, eI v), (5, eI ((((pairsL T).take i).countP (owns v) : Nat) : Int)), (6, encQ (pairsL T)), (7, eI (i : Int))], Ll [], 30, 0, [], none⟩) (fun i => (pairsL T).length - i) 0 .kp (Nat.zero_le _) fun i hi => ?_
  repeat (first | (refine oR ?_; (conv => whnf)) | refine kOps ?_ | refine oNil ?_ | refine sSeq ?_ | refine sR ?_ | refine qSeqN ?_)
  refine sC rfl (fun h1 => ?_) (fun h1 => ?_)
  · have hlt : i < (pairsL T).length := by have := dT h1; simpa using this
    obtain ⟨q, hq⟩ := get_lt hlt
    have hs := cntP_snoc (f := owns v) hq
    have hcl : ((pairsL T).take i).countP (owns v) ≤ i := Nat.le_trans List.countP_le_length (List.length_take_le _ _)
    have hw : W (((((pairsL T).take i).countP (owns v) : Nat) : Int) + 1) = ((((pairsL T).take i).countP (owns v) + 1 : Nat) : Int) := wrapS (m := 1099511627776) (by omega) (by omega)
    repeat (first | (refine oR ?_; (conv => whnf)) | refine kOps ?_ | refine sSeq ?_ | refine sR ?_ | refine qSeqN ?_ | refine sSkip ?_ | refine sBlk ?_)
    refine ⟨i, _, rfl, encP_get hq, ?_⟩
    conv => whnf
    repeat (first | (refine oR ?_; (conv => whnf)) | refine kOps ?_)
    refine oS rfl rfl rfl (fun h2 => ?_) (fun h2 => ?_)
    · repeat (first | (refine oR ?_; (conv => whnf)) | refine kOps ?_ | (refine oG ?_; (conv => whnf)) | refine oNil ?_ | refine qSeqN ?_ | (refine sBT ?_; (conv => whnf)))
      refine sC rfl (fun h3 => ?_) (fun h3 => ?_)
      · rw [if_pos (by simp at h2 h3; simp [owns, h2, h3])] at hs
        repeat (first | (refine oR ?_; (conv => whnf)) | refine kOps ?_ | refine oNil ?_ | refine sR ?_ | refine qSeqN ?_ | refine qBlkN ?_)
        exact qLoopN (i + 1) (.keep _ _ _ _ trivial ⟨rfl, by rw [hs]; exact congrArg eI hw, rfl, congrArg eI (wrapS hlt (by omega)), trivial⟩ rfl rfl) hlt (by omega)
      · rw [if_neg (by simp at h2 h3; simp [owns, h3])] at hs
        repeat (first | (refine oR ?_; (conv => whnf)) | refine kOps ?_ | refine oNil ?_ | refine sR ?_ | refine qSeqN ?_ | refine sSkip ?_ | refine qBlkN ?_)
        exact qLoopN (i + 1) (.keep _ _ _ _ trivial ⟨rfl, by rw [hs]; rfl, rfl, congrArg eI (wrapS hlt (by omega)), trivial⟩ rfl rfl) hlt (by omega)
    · rw [if_neg (by simp at h2; simp [owns, h2])] at hs
      repeat (first | (refine oR ?_; (conv => whnf)) | refine kOps ?_ | refine oH ?_ | refine oNil ?_ | refine sR ?_ | refine qSeqN ?_ | refine sSkip ?_ | refine sF ?_ | refine qBlkN ?_ | (refine sBF ?_; (conv => whnf)))
      exact qLoopN (i + 1) (.keep _ _ _ _ trivial ⟨rfl, by rw [hs]; rfl, rfl, congrArg eI (wrapS hlt (by omega)), trivial⟩ rfl rfl) hlt (by omega)
  · have hge : (pairsL T).length ≤ i := by have := dF h1; simpa using this
    repeat (first | (refine oR ?_; (conv => whnf)) | refine kOps ?_ | refine oNil ?_ | refine sSeq ?_ | refine sR ?_ | refine qSeqN ?_ | refine sRet ?_ | refine sExit ?_ | refine qSeqE ?_ | refine qX ?_ | refine qLoopE ?_)
    refine qEnd ?_
    conv => whnf
    rw [List.take_of_length_le hge]
    rfl
def timesL (l : List Int) (v : Int) : Nat := l.countP fun x => v != 0 && x == v
theorem cntI_snoc {l : List Int} {f : Int → Bool} {i : Nat} {q : Int} (h : l[i]? = some q) : (l.take (i + 1)).countP f = if f q then (l.take i).countP f + 1 else (l.take i).countP f := by
  obtain ⟨h1, rfl⟩ := List.getElem?_eq_some_iff.1 h
  rw [List.take_succ_eq_append_getElem h1, List.countP_append, List.countP_singleton]
  split <;> rfl
theorem c_times (l : List Int) (v : Int) (hl : l.length ≤ 1099511627776) : C Try.prog 50 [encI l, eI v] (eI (timesL l v)) := by
  refine fnOk mixed tyOk Try.func50 (code := Try.f50.body.getD .skip) rfl rfl rfl (gC_in ?_)
  repeat (first | (refine oR ?_; (conv => whnf)) | refine kOps ?_ | refine oNil ?_ | refine sSeq ?_ | refine sR ?_ | refine qSeqN ?_ | refine sBlk ?_)
  refine sLoop (fun i => i ≤ l.length) (fun i => ⟨tl [(0, encI l), (1, eI v), (5, eI ((timesL (l.take i) v : Nat) : Int)), (6, eI (i : Int))], Ll [], 26, 0, [], none⟩) (fun i => l.length - i) 0 .kp (Nat.zero_le _) fun i hi => ?_
  repeat (first | (refine oR ?_; (conv => whnf)) | refine kOps ?_ | refine oNil ?_ | refine sSeq ?_ | refine sR ?_ | refine qSeqN ?_)
  refine sC rfl (fun h1 => ?_) (fun h1 => ?_)
  · have hlt : i < l.length := by have := dT h1; simpa using this
    obtain ⟨q, hq⟩ := get_lt hlt
    have hs : timesL (l.take (i + 1)) v = if (v != 0 && q == v) = true then timesL (l.take i) v + 1 else timesL (l.take i) v := cntI_snoc hq
    have hcl : timesL (l.take i) v ≤ i := Nat.le_trans List.countP_le_length (List.length_take_le _ _)
    have hw : W (((timesL (l.take i) v : Nat) : Int) + 1) = ((timesL (l.take i) v + 1 : Nat) : Int) := wrapS (m := 1099511627776) (by omega) (by omega)
    repeat (first | (refine oR ?_; (conv => whnf)) | refine kOps ?_ | refine sSeq ?_ | refine sR ?_ | refine qSeqN ?_ | refine sSkip ?_ | refine sBlk ?_)
    refine ⟨i, _, rfl, encI_get hq, ?_⟩
    conv => whnf
    repeat (first | (refine oR ?_; (conv => whnf)) | refine kOps ?_)
    refine oS rfl rfl rfl (fun h2 => ?_) (fun h2 => ?_)
    · repeat (first | (refine oR ?_; (conv => whnf)) | refine kOps ?_ | (refine oG ?_; (conv => whnf)) | refine oNil ?_ | refine qSeqN ?_ | (refine sBT ?_; (conv => whnf)))
      refine sC rfl (fun h3 => ?_) (fun h3 => ?_)
      · rw [if_pos (by simp at h2 h3; simp [h2, h3])] at hs
        repeat (first | (refine oR ?_; (conv => whnf)) | refine kOps ?_ | refine oNil ?_ | refine sR ?_ | refine qSeqN ?_ | refine qBlkN ?_)
        exact qLoopN (i + 1) (.keep _ _ _ _ trivial ⟨rfl, rfl, by rw [hs]; exact congrArg eI hw, congrArg eI (wrapS hlt hl), trivial⟩ rfl rfl) hlt (by omega)
      · rw [if_neg (by simp at h2 h3; simp [h3])] at hs
        repeat (first | (refine oR ?_; (conv => whnf)) | refine kOps ?_ | refine oNil ?_ | refine sR ?_ | refine qSeqN ?_ | refine sSkip ?_ | refine qBlkN ?_)
        exact qLoopN (i + 1) (.keep _ _ _ _ trivial ⟨rfl, rfl, by rw [hs]; rfl, congrArg eI (wrapS hlt hl), trivial⟩ rfl rfl) hlt (by omega)
    · rw [if_neg (by simp at h2; simp [h2])] at hs
      repeat (first | (refine oR ?_; (conv => whnf)) | refine kOps ?_ | refine oH ?_ | refine oNil ?_ | refine sR ?_ | refine qSeqN ?_ | refine sSkip ?_ | refine sF ?_ | refine qBlkN ?_ | (refine sBF ?_; (conv => whnf)))
      exact qLoopN (i + 1) (.keep _ _ _ _ trivial ⟨rfl, rfl, by rw [hs]; rfl, congrArg eI (wrapS hlt hl), trivial⟩ rfl rfl) hlt (by omega)
  · have hge : l.length ≤ i := by have := dF h1; simpa using this
    repeat (first | (refine oR ?_; (conv => whnf)) | refine kOps ?_ | refine oNil ?_ | refine sSeq ?_ | refine sR ?_ | refine qSeqN ?_ | refine sRet ?_ | refine sExit ?_ | refine qSeqE ?_ | refine qX ?_ | refine qLoopE ?_)
    refine qEnd ?_
    conv => whnf
    rw [List.take_of_length_le hge]
    rfl
theorem c_same11 (A B : List Pr) (hA : A.length ≤ 1099511627776) : C Try.prog 44 [encQ A, encQ B] (.bool (decide (A = B))) := by
  refine fnOk mixed tyOk Try.func44 (code := Try.f44.body.getD .skip) rfl rfl rfl (gC_in ?_)
  repeat (first | (refine oR ?_; (conv => whnf)) | refine kOps ?_ | refine oNil ?_ | refine sSeq ?_ | refine sR ?_ | refine qSeqN ?_)
  refine sC rfl (fun h0 => ?_) (fun h0 => ?_)
  · have h0 : A ≠ B := fun he => by subst he; simp at h0
    rw [decide_eq_false h0]
    repeat (first | (refine oR ?_; (conv => whnf)) | refine kOps ?_ | refine oNil ?_ | refine sSeq ?_ | refine sR ?_ | refine qSeqN ?_ | refine sRet ?_ | refine qSeqR ?_)
    refine qEnd ?_
    conv => whnf
    rfl
  · have h0 : A.length = B.length := by simp at h0; omega
    repeat (first | (refine oR ?_; (conv => whnf)) | refine kOps ?_ | refine oNil ?_ | refine sSeq ?_ | refine sR ?_ | refine qSeqN ?_ | refine sSkip ?_ | refine sBlk ?_)
    refine sLoop (fun i => i ≤ A.length ∧ A.take i = B.take i) (fun i => ⟨tl [(0, encQ A), (1, encQ B), (5, eI (i : Int))], Ll [], 26, 0, [], none⟩) (fun i => A.length - i) 0 .kp ⟨Nat.zero_le _, rfl⟩ fun i hi => ?_
    obtain ⟨hi, hAB⟩ := hi
    repeat (first | (refine oR ?_; (conv => whnf)) | refine kOps ?_ | refine oNil ?_ | refine sSeq ?_ | refine sR ?_ | refine qSeqN ?_)
    refine sC rfl (fun h1 => ?_) (fun h1 => ?_)
    · have hlt : i < A.length := by have := dT h1; simpa using this
      obtain ⟨a, ha⟩ : ∃ a, A[i]? = some a := ⟨_, List.getElem?_eq_getElem hlt⟩
      obtain ⟨b, hb⟩ : ∃ b, B[i]? = some b := ⟨_, List.getElem?_eq_getElem (by omega)⟩
      repeat (first | refine sSeq ?_ | refine qSeqN ?_ | refine sSkip ?_ | refine sBlk ?_ | refine sD ?_ | (apply drRun; exact rfl; exact .inl rfl; (conv => whnf); exact .mk rfl) | (apply drRun; exact rfl; exact .inl rfl; (conv => whnf)))
      refine ⟨i, _, rfl, encP_get ha, ?_⟩
      conv => whnf
      exact .mk rfl
      repeat (first | (apply drRun; exact rfl; exact .inl rfl; (conv => whnf); exact .mk rfl) | (apply drRun; exact rfl; exact .inl rfl; (conv => whnf)))
      refine ⟨i, _, rfl, encP_get hb, ?_⟩
      conv => whnf
      exact .mk rfl
      repeat (first | refine qSeqN ?_ | (apply drRun; exact rfl; exact .inl rfl; (conv => whnf); exact .mk rfl) | refine drNil ?_)
      obtain ⟨a1, a2⟩ := a
      obtain ⟨b1, b2⟩ := b
      refine sC rfl (fun h2 => ?_) (fun h2 => ?_)
      · have h2 : ((a1, a2) : Pr) ≠ (b1, b2) := fun he => by cases he; simp at h2
        rw [decide_eq_false (ne_of_at ha hb h2)]
        repeat (first | (refine oR ?_; (conv => whnf)) | refine kOps ?_ | refine oNil ?_ | refine sSeq ?_ | refine sR ?_ | refine qSeqN ?_ | refine sRet ?_ | refine qSeqR ?_ | refine qBlkR ?_ | refine qLoopR ?_)
        refine qEnd ?_
        conv => whnf
        rfl
      · have h2 : ((a1, a2) : Pr) = (b1, b2) := by simp at h2; simp [h2]
        repeat (first | (refine oR ?_; (conv => whnf)) | refine kOps ?_ | refine oNil ?_ | refine sR ?_ | refine qSeqN ?_ | refine sSkip ?_ | refine qBlkN ?_)
        exact qLoopN (i + 1) .kp ⟨by omega, (take_eq_succ ha hb hAB).2 h2⟩ (by omega)
    · have hge : A.length ≤ i := by have := dF h1; simpa using this
      have e : A = B := by rwa [List.take_of_length_le hge, List.take_of_length_le (by omega)] at hAB
      rw [decide_eq_true e]
      repeat (first | (refine oR ?_; (conv => whnf)) | refine kOps ?_ | refine oNil ?_ | refine sSeq ?_ | refine sR ?_ | refine qSeqN ?_ | refine sRet ?_ | refine sExit ?_ | refine qSeqE ?_ | refine qX ?_ | refine qLoopE ?_)
      refine qEnd ?_
      conv => whnf
      rfl
end Go.Proofs.Ytcfbhojpemjjpaa
