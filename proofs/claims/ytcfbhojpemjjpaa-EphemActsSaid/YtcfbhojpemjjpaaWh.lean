/- Walks: Put by the document, Keys, New, Same, Ints. -/
import Derived.Test.YtcfbhojpemjjpaaWg
set_option linter.unusedVariables false
set_option linter.unusedSimpArgs false
namespace Go.Proofs.Ytcfbhojpemjjpaa
open Go Go.RowKit

theorem roadP_get {T : List Pl} {k : Int} {j : Nat} (hj : j < T.length) : ∃ p, T[roadIx T k j]? = some p ∧ (roadP T k)[j]? = some (roadIx T k j, p) := by
  have hlt : roadIx T k j < T.length := Nat.mod_lt _ (by omega)
  refine ⟨T[roadIx T k j], List.getElem?_eq_getElem hlt, ?_⟩
  simp [roadP, hj, List.getElem?_eq_getElem hlt]
theorem roadIx_succ (T : List Pl) (k : Int) (j : Nat) : (roadIx T k j + 1) % T.length = roadIx T k (j + 1) := by
  unfold roadIx
  rw [Nat.mod_add_mod, Nat.add_assoc]
theorem roadIx_zero {T : List Pl} (k : Int) (h : 0 < T.length) (hm : T.length ≤ 1099511627776) : roadIx T k 0 = homeN T.length k := by
  unfold roadIx
  exact Nat.mod_eq_of_lt (home_lt h hm k).2
theorem road_step {T : List Pl} {k : Int} {j : Nat} (h : 0 < T.length) (hm : T.length ≤ 1099511627776) : (W ((roadIx T k j : Int) + 1)).tmod (T.length : Int) = (roadIx T k (j + 1) : Int) := by
  have hlt : roadIx T k j < T.length := Nat.mod_lt _ h
  rw [show W ((roadIx T k j : Int) + 1) = ((roadIx T k j + 1 : Nat) : Int) from wrapS hlt hm, ← Int.ofNat_tmod, roadIx_succ]
theorem c_put (T : List Pl) (k v : Int) (hT : T.length ≤ 1099511627776) : C Try.prog 20 [encT T, eI k, eI v] (ePut (putAt T (slotL T k) k v)) := by
  refine fnOk mixed tyOk Try.func20 (code := Try.f20.body.getD .skip) rfl rfl rfl (gC_in ?_)
  have ho := findL_or T k
  have hc := c_find T k hT
  unfold slotL
  generalize findL T k = i at ho hc ⊢
  repeat (first | (refine oR ?_; (conv => whnf)) | refine kOps ?_ | refine oNil ?_ | refine sSeq ?_ | refine sR ?_ | refine qSeqN ?_)
  (refine oCall rfl (.inl rfl) rfl rfl rfl (.fz [] _) rfl ⟨rfl, hc, ?_⟩; (conv => whnf))
  repeat (first | (refine oR ?_; (conv => whnf)) | refine kOps ?_ | refine oNil ?_ | refine sSeq ?_ | refine sR ?_ | refine qSeqN ?_)
  rcases ho with ⟨rfl, _⟩ | ⟨n, p, hp, _, rfl, _⟩
  · rw [if_pos (by decide)]
    have hlen : (T.map Pl.enc).length = T.length := List.length_map _
    repeat (first | (refine oR ?_; (conv => whnf)) | refine kOps ?_ | refine oNil ?_ | refine sSeq ?_ | refine sR ?_ | refine qSeqN ?_ | refine sSkip ?_ | refine sF ?_)
    (refine oCall rfl (.inl rfl) rfl rfl rfl (.fz [] _) rfl ⟨rfl, c_home2 (T.map Pl.enc).length k, ?_⟩; (conv => whnf))
    repeat (first | (refine oR ?_; (conv => whnf)) | refine kOps ?_ | refine oNil ?_ | refine sSeq ?_ | refine sR ?_ | refine qSeqN ?_ | refine sBlk ?_)
    rcases Nat.eq_zero_or_pos T.length with h0 | h0
    · obtain rfl : T = [] := List.eq_nil_of_length_eq_zero h0
      refine sLoop (fun _ : Unit => True) (fun _ => ⟨tl [(0, encT []), (9, eI 0), (11, eI 0)], Ll [], 50, 0, [], none⟩) (fun _ => 0) () .kp trivial fun _ _ => ?_
      repeat (first | (refine oR ?_; (conv => whnf)) | refine kOps ?_ | refine oNil ?_ | refine sSeq ?_ | refine sR ?_ | refine qSeqN ?_ | refine sF ?_ | refine sRet ?_ | refine sExit ?_ | refine qSeqE ?_ | refine qX ?_ | refine qLoopE ?_)
      refine qEnd ?_
      conv => whnf
      rfl
    · have hh := (home_lt h0 hT k).1
      refine sLoop (fun j => j ≤ T.length ∧ freeGo ((roadP T k).drop j) = freeL T k) (fun j => ⟨tl [(0, encT T), (1, eI k), (2, eI v), (9, eI T.length), (10, eI (roadIx T k j)), (11, eI (j : Int))], Ll [], 50, 0, [], none⟩) (fun j => T.length - j) 0
        (.keep _ _ _ _ trivial ⟨rfl, rfl, rfl, congrArg (fun n : Nat => eI n) hlen, by rw [roadIx_zero k h0 hT, ← hh]; exact congrArg (fun n : Nat => eI (homeW n k)) hlen, rfl, trivial⟩ rfl rfl) ⟨by omega, rfl⟩ fun j hj => ?_
      obtain ⟨hj, hgo⟩ := hj
      repeat (first | (refine oR ?_; (conv => whnf)) | refine kOps ?_ | refine oNil ?_ | refine sSeq ?_ | refine sR ?_ | refine qSeqN ?_)
      refine sC rfl (fun h1 => ?_) (fun h1 => ?_)
      · have hlt : j < T.length := by have := dT h1; omega
        obtain ⟨p, hp, hr⟩ := roadP_get (k := k) hlt
        rw [drop_of hr, freeGo] at hgo
        repeat (first | (refine oR ?_; (conv => whnf)) | refine kOps ?_ | refine sSeq ?_ | refine sR ?_ | refine qSeqN ?_ | refine sSkip ?_ | refine sBlk ?_)
        refine ⟨_, _, rfl, enc_get hp, ?_⟩
        conv => whnf
        repeat (first | (refine oR ?_; (conv => whnf)) | refine kOps ?_ | refine oNil ?_ | refine qSeqN ?_)
        refine sC rfl (fun h2 => ?_) (fun h2 => ?_)
        · rw [if_pos (by simpa using h2)] at hgo
          rw [← hgo, show putAt T (roadIx T k j : Int) k v = (T.set (roadIx T k j) ⟨1, k, v⟩, 0) by simp [putAt]]
          repeat (first | (refine oR ?_; (conv => whnf)) | refine kOps ?_ | refine sSeq ?_ | refine sR ?_)
          (refine oCall rfl (.inl rfl) rfl rfl rfl (.fz [] _) rfl ⟨rfl, c_with T (roadIx T k j) ⟨1, k, v⟩ (lt_of_get hp) hT, ?_⟩; (conv => whnf))
          repeat (first | (refine oR ?_; (conv => whnf)) | refine kOps ?_ | refine oNil ?_ | refine qSeqN ?_ | refine sRet ?_ | refine qSeqR ?_ | refine qBlkR ?_ | refine qLoopR ?_)
          refine qEnd ?_
          conv => whnf
          rfl
        · rw [if_neg (by simpa using h2)] at hgo
          repeat (first | (refine oR ?_; (conv => whnf)) | refine kOps ?_ | refine sR ?_ | refine qSeqN ?_ | refine sSkip ?_)
          refine ⟨by omega, ?_⟩
          repeat (first | (refine oR ?_; (conv => whnf)) | refine kOps ?_ | refine oNil ?_ | refine sR ?_ | refine qSeqN ?_ | refine qBlkN ?_)
          exact qLoopN (j + 1) (.keep _ _ _ _ trivial ⟨rfl, rfl, rfl, rfl, congrArg eI (road_step h0 hT), congrArg eI (wrapS hlt hT), trivial⟩ rfl rfl) ⟨by omega, hgo⟩ (by omega)
      · have hge : T.length ≤ j := by have := dF h1; omega
        rw [List.drop_eq_nil_of_le (by simpa [roadP] using hge)] at hgo
        rw [← hgo]
        repeat (first | (refine oR ?_; (conv => whnf)) | refine kOps ?_ | refine oNil ?_ | refine sSeq ?_ | refine sR ?_ | refine qSeqN ?_ | refine sRet ?_ | refine sExit ?_ | refine qSeqE ?_ | refine qX ?_ | refine qLoopE ?_)
        refine qEnd ?_
        conv => whnf
        rfl
  · rw [if_neg (by omega), show putAt T (n : Int) k v = (T.set n ⟨1, k, v⟩, 0) by simp [putAt]]
    refine sC rfl (fun h => ?_) (fun h => ?_)
    · repeat (first | (refine oR ?_; (conv => whnf)) | refine kOps ?_ | refine sSeq ?_ | refine sR ?_)
      (refine oCall rfl (.inl rfl) rfl rfl rfl (.fz [] _) rfl ⟨rfl, c_with T n ⟨1, k, v⟩ (lt_of_get hp) hT, ?_⟩; (conv => whnf))
      repeat (first | (refine oR ?_; (conv => whnf)) | refine kOps ?_ | refine oNil ?_ | refine qSeqN ?_ | refine sRet ?_ | refine qSeqR ?_)
      refine qEnd ?_
      conv => whnf
      rfl
    · exfalso
      simp at h <;> omega
def newL (n : Int) : List Pl := if n < 1 ∨ 8 < n then [] else List.replicate n.toNat pl0
theorem c_hnew (n : Int) : C Try.prog 31 [eI n] (encT (newL n)) := by
  refine fnOk mixed tyOk Try.func31 (code := Try.f31.body.getD .skip) rfl rfl rfl (gC_in ?_)
  repeat (first | (refine oR ?_; (conv => whnf)) | refine kOps ?_ | refine oNil ?_ | refine sSeq ?_ | refine sR ?_ | refine qSeqN ?_)
  refine oS rfl rfl rfl (fun h1 => ?_) (fun h1 => ?_)
  · rw [newL, if_pos (.inl (dT h1))]
    repeat (first | (refine oR ?_; (conv => whnf)) | refine kOps ?_ | refine oH ?_ | refine oNil ?_ | refine sSeq ?_ | refine sR ?_ | refine qSeqN ?_ | refine sT ?_ | refine sRet ?_ | refine qSeqR ?_ | (refine sBT ?_; (conv => whnf)))
    refine qEnd ?_
    conv => whnf
    rfl
  · have h1 := dF h1
    repeat (first | (refine oR ?_; (conv => whnf)) | refine kOps ?_ | (refine oG ?_; (conv => whnf)) | refine oNil ?_ | refine qSeqN ?_ | (refine sBF ?_; (conv => whnf)))
    refine sC rfl (fun h2 => ?_) (fun h2 => ?_)
    · rw [newL, if_pos (.inr (dT h2))]
      repeat (first | (refine oR ?_; (conv => whnf)) | refine kOps ?_ | refine oNil ?_ | refine sSeq ?_ | refine sR ?_ | refine qSeqN ?_ | refine sRet ?_ | refine qSeqR ?_)
      refine qEnd ?_
      conv => whnf
      rfl
    · have h2 := dF h2
      rw [newL, if_neg (by omega)]
      repeat (first | (refine oR ?_; (conv => whnf)) | refine kOps ?_ | refine sSeq ?_ | refine sR ?_ | refine qSeqN ?_ | refine sSkip ?_)
      refine ⟨rfl, n.toNat, by omega, roomP (by omega), ?_⟩
      repeat (first | (refine oR ?_; (conv => whnf)) | refine kOps ?_ | refine oNil ?_ | refine qSeqN ?_ | refine sRet ?_)
      refine qEnd ?_
      conv => whnf
      exact congrArg AV.sl (List.map_replicate (f := Pl.enc) (a := pl0)).symm
theorem c_new (n : Int) : C Try.prog 32 [eI n] (encT (newL n)) := by
  refine fnOk mixed tyOk Try.func32 (code := Try.f32.body.getD .skip) rfl rfl rfl (gC_in ?_)
  repeat (first | (refine oR ?_; (conv => whnf)) | refine kOps ?_ | refine oNil ?_ | refine sSeq ?_ | refine sR ?_ | refine qSeqN ?_)
  refine oS rfl rfl rfl (fun h1 => ?_) (fun h1 => ?_)
  · rw [newL, if_pos (.inl (dT h1))]
    repeat (first | (refine oR ?_; (conv => whnf)) | refine kOps ?_ | refine oH ?_ | refine oNil ?_ | refine sSeq ?_ | refine sR ?_ | refine qSeqN ?_ | refine sT ?_ | refine sRet ?_ | refine qSeqR ?_ | (refine sBT ?_; (conv => whnf)))
    refine qEnd ?_
    conv => whnf
    rfl
  · have h1 := dF h1
    repeat (first | (refine oR ?_; (conv => whnf)) | refine kOps ?_ | (refine oG ?_; (conv => whnf)) | refine oNil ?_ | refine qSeqN ?_ | (refine sBF ?_; (conv => whnf)))
    refine sC rfl (fun h2 => ?_) (fun h2 => ?_)
    · rw [newL, if_pos (.inr (dT h2))]
      repeat (first | (refine oR ?_; (conv => whnf)) | refine kOps ?_ | refine oNil ?_ | refine sSeq ?_ | refine sR ?_ | refine qSeqN ?_ | refine sRet ?_ | refine qSeqR ?_)
      refine qEnd ?_
      conv => whnf
      rfl
    · have h2 := dF h2
      rw [newL, if_neg (by omega)]
      repeat (first | (refine oR ?_; (conv => whnf)) | refine kOps ?_ | refine sSeq ?_ | refine sR ?_ | refine qSeqN ?_ | refine sSkip ?_)
      refine ⟨rfl, n.toNat, by omega, roomP (by omega), ?_⟩
      repeat (first | (refine oR ?_; (conv => whnf)) | refine kOps ?_ | refine oNil ?_ | refine qSeqN ?_ | refine sRet ?_)
      refine qEnd ?_
      conv => whnf
      exact congrArg AV.sl (List.map_replicate (f := Pl.enc) (a := pl0)).symm
theorem keysL_snoc {T : List Pl} {i : Nat} {p : Pl} (h : T[i]? = some p) : keysL (T.take (i + 1)) = if p.st = 1 then keysL (T.take i) ++ [p.ky] else keysL (T.take i) := by
  obtain ⟨h1, rfl⟩ := List.getElem?_eq_some_iff.1 h
  rw [List.take_succ_eq_append_getElem h1]
  unfold keysL
  rw [List.filter_append, List.map_append]
  by_cases hs : T[i].st = 1 <;> simp [hs]
theorem keysL_le (T : List Pl) : (keysL T).length ≤ T.length := by
  unfold keysL
  rw [List.length_map]
  exact List.length_filter_le _ _
def rI (l : List Int) : List (List AV) := l.map fun n => [eI n]
theorem c_keys (T : List Pl) (hT : T.length ≤ 1099511627776) : C Try.prog 28 [encT T] (encI (keysL T)) := by
  refine fnOk mixed tyOk Try.func28 (code := Try.f28.body.getD .skip) rfl rfl rfl (gC_in ?_)
  repeat (first | (refine oR ?_; (conv => whnf)) | refine kOps ?_ | refine oNil ?_ | refine sSeq ?_ | refine sR ?_ | refine qSeqN ?_ | refine sBlk ?_)
  refine sLoop (fun i => i ≤ T.length) (fun i => ⟨tl [(0, encT T), (3, .rowf 0), (4, eI (i : Int))], Ll [(0, .rows 3 1 (rI (keysL (T.take i))))], 27, 1, [], none⟩) (fun i => T.length - i) 0 .kp (Nat.zero_le _) fun i hi => ?_
  repeat (first | (refine oR ?_; (conv => whnf)) | refine kOps ?_ | refine oNil ?_ | refine sSeq ?_ | refine sR ?_ | refine qSeqN ?_)
  refine sC rfl (fun h1 => ?_) (fun h1 => ?_)
  · have hlt : i < T.length := by have := dT h1; simp at this; omega
    have hx : T[i]? = some T[i] := List.getElem?_eq_getElem hlt
    have hk := keysL_snoc hx
    have hle := keysL_le (T.take i)
    rw [List.length_take] at hle
    generalize T[i] = p at hx hk
    repeat (first | (refine oR ?_; (conv => whnf)) | refine kOps ?_ | refine sSeq ?_ | refine sR ?_ | refine qSeqN ?_ | refine sSkip ?_ | refine sBlk ?_)
    refine ⟨i, _, rfl, enc_get hx, ?_⟩
    conv => whnf
    repeat (first | (refine oR ?_; (conv => whnf)) | refine kOps ?_ | refine oNil ?_ | refine qSeqN ?_)
    refine sC rfl (fun h2 => ?_) (fun h2 => ?_)
    · have h2 : p.st = 1 := by simpa using h2
      rw [if_pos h2] at hk
      repeat (first | (refine oR ?_; (conv => whnf)) | refine kOps ?_ | refine sR ?_)
      refine ⟨i, _, rfl, enc_get hx, ?_⟩
      conv => whnf
      repeat (first | (refine oR ?_; (conv => whnf)) | refine kOps ?_)
      refine ⟨by simp [oneC], roomI (by simp [rI]; omega), ?_⟩
      repeat (first | (refine oR ?_; (conv => whnf)) | refine kOps ?_ | refine oNil ?_ | refine sR ?_ | refine qSeqN ?_ | refine qBlkN ?_)
      exact qLoopN (i + 1) (.keep _ _ _ _ ⟨congrArg (Blk.rows 3 1) (by rw [hk]; simp [rI]), trivial⟩ ⟨rfl, rfl, congrArg eI (wrapS hlt hT), trivial⟩ rfl rfl) hlt (by omega)
    · have h2 : ¬ p.st = 1 := by simpa using h2
      rw [if_neg h2] at hk
      repeat (first | (refine oR ?_; (conv => whnf)) | refine kOps ?_ | refine oNil ?_ | refine sR ?_ | refine qSeqN ?_ | refine sSkip ?_ | refine qBlkN ?_)
      exact qLoopN (i + 1) (.keep _ _ _ _ ⟨congrArg (Blk.rows 3 1) (by rw [hk]), trivial⟩ ⟨rfl, rfl, congrArg eI (wrapS hlt hT), trivial⟩ rfl rfl) hlt (by omega)
  · have hge : T.length ≤ i := by have := dF h1; simpa using this
    repeat (first | (refine oR ?_; (conv => whnf)) | refine kOps ?_ | refine oNil ?_ | refine sSeq ?_ | refine sR ?_ | refine qSeqN ?_ | refine sRet ?_ | refine sExit ?_ | refine qSeqE ?_ | refine qX ?_ | refine qLoopE ?_)
    refine qEnd ?_
    conv => whnf
    rw [List.take_of_length_le hge]
    rfl
theorem c_hkeys (T : List Pl) (hT : T.length ≤ 1099511627776) : C Try.prog 27 [encT T] (encI (keysL T)) := by
  refine fnOk mixed tyOk Try.func27 (code := Try.f27.body.getD .skip) rfl rfl rfl (gC_in ?_)
  have hlen : (T.map Pl.enc).length = T.length := List.length_map _
  repeat (first | (refine oR ?_; (conv => whnf)) | refine kOps ?_ | refine oNil ?_ | refine sSeq ?_ | refine sR ?_ | refine qSeqN ?_ | refine sBlk ?_)
  refine sLoop (fun i => i ≤ T.length) (fun i => ⟨tl [(2, .rowf 0), (5, encT T), (6, eI T.length), (7, eI (i : Int))], Ll [(0, .rows 3 1 (rI (keysL (T.take i))))], 21, 1, [], none⟩) (fun i => T.length - i) 0 (.trans (.adopt 2 0 3 1 rfl rfl (by decide)) (.keep _ _ _ _ ⟨rfl, trivial⟩ ⟨rfl, rfl, congrArg (fun n : Nat => eI n) hlen, rfl, trivial⟩ rfl rfl)) (Nat.zero_le _) fun i hi => ?_
  repeat (first | (refine oR ?_; (conv => whnf)) | refine kOps ?_ | refine oNil ?_ | refine sSeq ?_ | refine sR ?_ | refine qSeqN ?_)
  refine sC rfl (fun h1 => ?_) (fun h1 => ?_)
  · have hlt : i < T.length := by have := dT h1; omega
    have hx : T[i]? = some T[i] := List.getElem?_eq_getElem hlt
    have hk := keysL_snoc hx
    have hle := keysL_le (T.take i)
    rw [List.length_take] at hle
    generalize T[i] = p at hx hk
    repeat (first | (refine oR ?_; (conv => whnf)) | refine sSeq ?_ | refine sR ?_ | refine qSeqN ?_ | refine sSkip ?_ | refine sBlk ?_)
    refine ⟨i, _, rfl, enc_get hx, ?_⟩
    conv => whnf
    repeat (first | (refine oR ?_; (conv => whnf)) | refine kOps ?_ | refine oNil ?_ | refine sSeq ?_ | refine sR ?_ | refine qSeqN ?_)
    refine sC rfl (fun h2 => ?_) (fun h2 => ?_)
    · have h2 : p.st = 1 := by simpa using h2
      rw [if_pos h2] at hk
      repeat (first | (refine oR ?_; (conv => whnf)) | refine kOps ?_ | refine sR ?_)
      refine ⟨by simp [oneC], roomI (by simp [rI]; omega), ?_⟩
      repeat (first | (refine oR ?_; (conv => whnf)) | refine kOps ?_ | refine oNil ?_ | refine sR ?_ | refine qSeqN ?_ | refine qBlkN ?_)
      exact qLoopN (i + 1) (.keep _ _ _ _ ⟨congrArg (Blk.rows 3 1) (by rw [hk]; simp [rI]), trivial⟩ ⟨rfl, rfl, rfl, congrArg eI (wrapS hlt hT), trivial⟩ rfl rfl) hlt (by omega)
    · have h2 : ¬ p.st = 1 := by simpa using h2
      rw [if_neg h2] at hk
      repeat (first | (refine oR ?_; (conv => whnf)) | refine kOps ?_ | refine oNil ?_ | refine sR ?_ | refine qSeqN ?_ | refine sSkip ?_ | refine qBlkN ?_)
      exact qLoopN (i + 1) (.keep _ _ _ _ ⟨congrArg (Blk.rows 3 1) (by rw [hk]), trivial⟩ ⟨rfl, rfl, rfl, congrArg eI (wrapS hlt hT), trivial⟩ rfl rfl) hlt (by omega)
  · have hge : T.length ≤ i := by have := dF h1; omega
    repeat (first | (refine oR ?_; (conv => whnf)) | refine kOps ?_ | refine oNil ?_ | refine sSeq ?_ | refine sR ?_ | refine qSeqN ?_ | refine sRet ?_ | refine sExit ?_ | refine qSeqE ?_ | refine qX ?_ | refine qLoopE ?_)
    refine qEnd ?_
    conv => whnf
    rw [List.take_of_length_le hge]
    rfl
theorem pure3 (p : Pl) : p.enc.length = 3 ∧ p.enc.all oneC = true := ⟨rfl, rfl⟩
theorem c_its10 (T : List Pl) (hT : T.length ≤ 1099511627776) : C Try.prog 16 [encT T] (encT T) := by
  refine fnOk mixed tyOk Try.func16 (code := Try.f16.body.getD .skip) rfl rfl rfl (gC_in ?_)
  repeat (first | (refine oR ?_; (conv => whnf)) | refine kOps ?_ | refine oNil ?_ | refine sSeq ?_ | refine sR ?_ | refine qSeqN ?_ | refine sBlk ?_)
  refine sLoop (fun i => i ≤ T.length) (fun i => ⟨tl [(0, encT T), (3, .rowf 0), (4, eI (i : Int))], Ll [(0, .rows 77 3 ((T.take i).map Pl.enc))], 20, 1, [], none⟩) (fun i => T.length - i) 0 .kp (Nat.zero_le _) fun i hi => ?_
  repeat (first | (refine oR ?_; (conv => whnf)) | refine kOps ?_ | refine oNil ?_ | refine sSeq ?_ | refine sR ?_ | refine qSeqN ?_)
  refine sC rfl (fun h1 => ?_) (fun h1 => ?_)
  · have hlt : i < T.length := by have := dT h1; simp at this; omega
    have hx : T[i]? = some T[i] := List.getElem?_eq_getElem hlt
    have hk := List.take_succ_eq_append_getElem hlt
    generalize T[i] = p at hx hk
    repeat (first | (refine oR ?_; (conv => whnf)) | refine kOps ?_ | refine sSeq ?_ | refine sR ?_ | refine qSeqN ?_ | refine sSkip ?_ | refine sBlk ?_)
    refine ⟨i, _, rfl, enc_get hx, ?_⟩
    conv => whnf
    repeat (first | (refine oR ?_; (conv => whnf)) | refine kOps ?_)
    refine ⟨by simp [oneC], roomP (by simp; omega), ?_⟩
    repeat (first | (refine oR ?_; (conv => whnf)) | refine kOps ?_ | refine oNil ?_ | refine sR ?_ | refine qSeqN ?_ | refine qBlkN ?_)
    exact qLoopN (i + 1) (.keep _ _ _ _ ⟨congrArg (Blk.rows 77 3) (by rw [hk]; simp [Pl.enc]), trivial⟩ ⟨rfl, rfl, congrArg eI (wrapS hlt hT), trivial⟩ rfl rfl) hlt (by omega)
  · have hge : T.length ≤ i := by have := dF h1; simpa using this
    repeat (first | (refine oR ?_; (conv => whnf)) | refine kOps ?_ | refine oNil ?_ | refine sSeq ?_ | refine sR ?_ | refine qSeqN ?_ | refine sRet ?_ | refine sExit ?_ | refine qSeqE ?_ | refine qX ?_ | refine qLoopE ?_)
    refine qEnd ?_
    conv => whnf
    rw [List.take_of_length_le hge]
    rfl
theorem c_its11 (T : List Pl) (hT : T.length ≤ 1099511627776) : C Try.prog 37 [encT T] (encT T) := by
  refine fnOk mixed tyOk Try.func37 (code := Try.f37.body.getD .skip) rfl rfl rfl (gC_in ?_)
  repeat (first | (refine oR ?_; (conv => whnf)) | refine kOps ?_ | refine oNil ?_ | refine sSeq ?_ | refine sR ?_ | refine qSeqN ?_ | refine sBlk ?_)
  refine sLoop (fun i => i ≤ T.length) (fun i => ⟨tl [(0, encT T), (3, .rowf 0), (4, eI (i : Int))], Ll [(0, .rows 77 3 ((T.take i).map Pl.enc))], 20, 1, [], none⟩) (fun i => T.length - i) 0 .kp (Nat.zero_le _) fun i hi => ?_
  repeat (first | (refine oR ?_; (conv => whnf)) | refine kOps ?_ | refine oNil ?_ | refine sSeq ?_ | refine sR ?_ | refine qSeqN ?_)
  refine sC rfl (fun h1 => ?_) (fun h1 => ?_)
  · have hlt : i < T.length := by have := dT h1; simp at this; omega
    have hx : T[i]? = some T[i] := List.getElem?_eq_getElem hlt
    have hk := List.take_succ_eq_append_getElem hlt
    generalize T[i] = p at hx hk
    repeat (first | (refine oR ?_; (conv => whnf)) | refine kOps ?_ | refine sSeq ?_ | refine sR ?_ | refine qSeqN ?_ | refine sSkip ?_ | refine sBlk ?_)
    refine ⟨i, _, rfl, enc_get hx, ?_⟩
    conv => whnf
    repeat (first | (refine oR ?_; (conv => whnf)) | refine kOps ?_)
    refine ⟨by simp [oneC], roomP (by simp; omega), ?_⟩
    repeat (first | (refine oR ?_; (conv => whnf)) | refine kOps ?_ | refine oNil ?_ | refine sR ?_ | refine qSeqN ?_ | refine qBlkN ?_)
    exact qLoopN (i + 1) (.keep _ _ _ _ ⟨congrArg (Blk.rows 77 3) (by rw [hk]; simp [Pl.enc]), trivial⟩ ⟨rfl, rfl, congrArg eI (wrapS hlt hT), trivial⟩ rfl rfl) hlt (by omega)
  · have hge : T.length ≤ i := by have := dF h1; simpa using this
    repeat (first | (refine oR ?_; (conv => whnf)) | refine kOps ?_ | refine oNil ?_ | refine sSeq ?_ | refine sR ?_ | refine qSeqN ?_ | refine sRet ?_ | refine sExit ?_ | refine qSeqE ?_ | refine qX ?_ | refine qLoopE ?_)
    refine qEnd ?_
    conv => whnf
    rw [List.take_of_length_le hge]
    rfl
end Go.Proofs.Ytcfbhojpemjjpaa
