/- Walks: Same, Ints, Right by the document. -/
import Derived.Test.YtcfbhojpemjjpaaWh
set_option linter.unusedVariables false
set_option linter.unusedSimpArgs false
namespace Go.Proofs.Ytcfbhojpemjjpaa
open Go Go.RowKit

theorem take_eq_succ {α : Type} {A B : List α} {i : Nat} {a b : α} (ha : A[i]? = some a) (hb : B[i]? = some b) (h : A.take i = B.take i) : A.take (i + 1) = B.take (i + 1) ↔ a = b := by
  obtain ⟨h1, rfl⟩ := List.getElem?_eq_some_iff.1 ha
  obtain ⟨h2, rfl⟩ := List.getElem?_eq_some_iff.1 hb
  rw [List.take_succ_eq_append_getElem h1, List.take_succ_eq_append_getElem h2, h]
  exact ⟨fun h => by have := List.append_cancel_left h; exact (List.cons.inj this).1, fun h => by rw [h]⟩
theorem ne_of_at {α : Type} {A B : List α} {i : Nat} {a b : α} (ha : A[i]? = some a) (hb : B[i]? = some b) (h : a ≠ b) : A ≠ B := fun he => by
  subst he
  rw [ha] at hb
  exact h (Option.some.inj hb)
theorem c_same (A B : List Pl) (hA : A.length ≤ 1099511627776) : C Try.prog 25 [encT A, encT B] (.bool (decide (A = B))) := by
  refine fnOk mixed tyOk Try.func25 (code := Try.f25.body.getD .skip) rfl rfl rfl (gC_in ?_)
  repeat (first | (refine oR ?_; (conv => whnf)) | refine kOps ?_ | refine oNil ?_ | refine sSeq ?_ | refine sR ?_ | refine qSeqN ?_)
  refine sC rfl (fun h0 => ?_) (fun h0 => ?_)
  · have h0 : A ≠ B := fun he => by subst he; simp at h0
    rw [decide_eq_false h0]
    repeat (first | (refine oR ?_; (conv => whnf)) | refine kOps ?_ | refine oNil ?_ | refine sSeq ?_ | refine sR ?_ | refine qSeqN ?_ | refine sRet ?_ | refine qSeqR ?_)
    refine qEnd ?_
    conv => whnf
    rfl
  · have h0 : A.length = B.length := by simp at h0; omega
    repeat (first | (refine oR ?_; (conv => whnf)) | refine kOps ?_ | refine oNil ?_ | refine sSeq ?_ | refine sR ?_ | refine qSeqN ?_ | refine sSkip ?_ | refine sBlk ?_)
    refine sLoop (fun i => i ≤ A.length ∧ A.take i = B.take i) (fun i => ⟨tl [(0, encT A), (1, encT B), (5, eI (i : Int))], Ll [], 26, 0, [], none⟩) (fun i => A.length - i) 0 .kp ⟨Nat.zero_le _, rfl⟩ fun i hi => ?_
    obtain ⟨hi, hAB⟩ := hi
    repeat (first | (refine oR ?_; (conv => whnf)) | refine kOps ?_ | refine oNil ?_ | refine sSeq ?_ | refine sR ?_ | refine qSeqN ?_)
    refine sC rfl (fun h1 => ?_) (fun h1 => ?_)
    · have hlt : i < A.length := by have := dT h1; simpa using this
      obtain ⟨a, ha⟩ : ∃ a, A[i]? = some a := ⟨_, List.getElem?_eq_getElem hlt⟩
      obtain ⟨b, hb⟩ : ∃ b, B[i]? = some b := ⟨_, List.getElem?_eq_getElem (by omega)⟩
      repeat (first | refine sSeq ?_ | refine qSeqN ?_ | refine sSkip ?_ | refine sBlk ?_ | refine sD ?_ | (apply drRun; exact rfl; exact .inl rfl; (conv => whnf); exact .mk rfl) | (apply drRun; exact rfl; exact .inl rfl; (conv => whnf)))
      refine ⟨i, _, rfl, enc_get ha, ?_⟩
      conv => whnf
      exact .mk rfl
      repeat (first | (apply drRun; exact rfl; exact .inl rfl; (conv => whnf); exact .mk rfl) | (apply drRun; exact rfl; exact .inl rfl; (conv => whnf)))
      refine ⟨i, _, rfl, enc_get hb, ?_⟩
      conv => whnf
      exact .mk rfl
      repeat (first | refine qSeqN ?_ | (apply drRun; exact rfl; exact .inl rfl; (conv => whnf); exact .mk rfl) | refine drNil ?_)
      obtain ⟨a1, a2, a3⟩ := a
      obtain ⟨b1, b2, b3⟩ := b
      refine sC rfl (fun h2 => ?_) (fun h2 => ?_)
      · have h2 : (⟨a1, a2, a3⟩ : Pl) ≠ ⟨b1, b2, b3⟩ := fun he => by cases he; simp at h2
        rw [decide_eq_false (ne_of_at ha hb h2)]
        repeat (first | (refine oR ?_; (conv => whnf)) | refine kOps ?_ | refine oNil ?_ | refine sSeq ?_ | refine sR ?_ | refine qSeqN ?_ | refine sRet ?_ | refine qSeqR ?_ | refine qBlkR ?_ | refine qLoopR ?_)
        refine qEnd ?_
        conv => whnf
        rfl
      · have h2 : (⟨a1, a2, a3⟩ : Pl) = ⟨b1, b2, b3⟩ := by simp at h2; simp [h2]
        repeat (first | (refine oR ?_; (conv => whnf)) | refine kOps ?_ | refine oNil ?_ | refine sR ?_ | refine qSeqN ?_ | refine sSkip ?_ | refine qBlkN ?_)
        exact qLoopN (i + 1) .kp ⟨by omega, (take_eq_succ ha hb hAB).2 h2⟩ (by omega)
    · have hge : A.length ≤ i := by have := dF h1; simpa using this
      have e : A = B := by rwa [List.take_of_length_le hge, List.take_of_length_le (by omega)] at hAB
      rw [decide_eq_true e]
      repeat (first | (refine oR ?_; (conv => whnf)) | refine kOps ?_ | refine oNil ?_ | refine sSeq ?_ | refine sR ?_ | refine qSeqN ?_ | refine sRet ?_ | refine sExit ?_ | refine qSeqE ?_ | refine qX ?_ | refine qLoopE ?_)
      refine qEnd ?_
      conv => whnf
      rfl
theorem encI_get {l : List Int} {i : Nat} {n : Int} (h : l[i]? = some n) : (l.map fun n => [eI n])[i]? = some [eI n] := by rw [List.getElem?_map, h]; rfl
theorem c_ints (A B : List Int) (hA : A.length ≤ 1099511627776) : C Try.prog 26 [encI A, encI B] (.bool (decide (A = B))) := by
  refine fnOk mixed tyOk Try.func26 (code := Try.f26.body.getD .skip) rfl rfl rfl (gC_in ?_)
  repeat (first | (refine oR ?_; (conv => whnf)) | refine kOps ?_ | refine oNil ?_ | refine sSeq ?_ | refine sR ?_ | refine qSeqN ?_)
  refine sC rfl (fun h0 => ?_) (fun h0 => ?_)
  · have h0 : A ≠ B := fun he => by subst he; simp at h0
    rw [decide_eq_false h0]
    repeat (first | (refine oR ?_; (conv => whnf)) | refine kOps ?_ | refine oNil ?_ | refine sSeq ?_ | refine sR ?_ | refine qSeqN ?_ | refine sRet ?_ | refine qSeqR ?_)
    refine qEnd ?_
    conv => whnf
    rfl
  · have h0 : A.length = B.length := by simp at h0; omega
    repeat (first | (refine oR ?_; (conv => whnf)) | refine kOps ?_ | refine oNil ?_ | refine sSeq ?_ | refine sR ?_ | refine qSeqN ?_ | refine sSkip ?_ | refine sBlk ?_)
    refine sLoop (fun i => i ≤ A.length ∧ A.take i = B.take i) (fun i => ⟨tl [(0, encI A), (1, encI B), (5, eI (i : Int))], Ll [], 26, 0, [], none⟩) (fun i => A.length - i) 0 .kp ⟨Nat.zero_le _, rfl⟩ fun i hi => ?_
    obtain ⟨hi, hAB⟩ := hi
    repeat (first | (refine oR ?_; (conv => whnf)) | refine kOps ?_ | refine oNil ?_ | refine sSeq ?_ | refine sR ?_ | refine qSeqN ?_)
    refine sC rfl (fun h1 => ?_) (fun h1 => ?_)
    · have hlt : i < A.length := by have := dT h1; simpa using this
      obtain ⟨a, ha⟩ : ∃ a, A[i]? = some a := ⟨_, List.getElem?_eq_getElem hlt⟩
      obtain ⟨b, hb⟩ : ∃ b, B[i]? = some b := ⟨_, List.getElem?_eq_getElem (by omega)⟩
      repeat (first | refine sSeq ?_ | refine qSeqN ?_ | refine sSkip ?_ | refine sBlk ?_ | refine sD ?_ | (apply drRun; exact rfl; exact .inl rfl; (conv => whnf); exact .mk rfl) | (apply drRun; exact rfl; exact .inl rfl; (conv => whnf)))
      refine ⟨i, _, rfl, encI_get ha, ?_⟩
      conv => whnf
      exact .mk rfl
      repeat (first | (apply drRun; exact rfl; exact .inl rfl; (conv => whnf); exact .mk rfl) | (apply drRun; exact rfl; exact .inl rfl; (conv => whnf)))
      refine ⟨i, _, rfl, encI_get hb, ?_⟩
      conv => whnf
      exact .mk rfl
      repeat (first | refine qSeqN ?_ | (apply drRun; exact rfl; exact .inl rfl; (conv => whnf); exact .mk rfl) | refine drNil ?_)
      refine sC rfl (fun h2 => ?_) (fun h2 => ?_)
      · have h2 : a ≠ b := by simpa using h2
        rw [decide_eq_false (ne_of_at ha hb h2)]
        repeat (first | (refine oR ?_; (conv => whnf)) | refine kOps ?_ | refine oNil ?_ | refine sSeq ?_ | refine sR ?_ | refine qSeqN ?_ | refine sRet ?_ | refine qSeqR ?_ | refine qBlkR ?_ | refine qLoopR ?_)
        refine qEnd ?_
        conv => whnf
        rfl
      · have h2 : a = b := by simpa using h2
        repeat (first | (refine oR ?_; (conv => whnf)) | refine kOps ?_ | refine oNil ?_ | refine sR ?_ | refine qSeqN ?_ | refine sSkip ?_ | refine qBlkN ?_)
        exact qLoopN (i + 1) .kp ⟨by omega, (take_eq_succ ha hb hAB).2 h2⟩ (by omega)
    · have hge : A.length ≤ i := by have := dF h1; simpa using this
      have e : A = B := by rwa [List.take_of_length_le hge, List.take_of_length_le (by omega)] at hAB
      rw [decide_eq_true e]
      repeat (first | (refine oR ?_; (conv => whnf)) | refine kOps ?_ | refine oNil ?_ | refine sSeq ?_ | refine sR ?_ | refine qSeqN ?_ | refine sRet ?_ | refine sExit ?_ | refine qSeqE ?_ | refine qX ?_ | refine qLoopE ?_)
      refine qEnd ?_
      conv => whnf
      rfl
def dist (n h i : Nat) : Nat := (i + n - h) % n
theorem dist_iff {n h i s : Nat} (hh : h < n) (hi : i < n) (hs : s ≤ dist n h i) : (h + s) % n = i ↔ s = dist n h i := by
  unfold dist at hs ⊢
  by_cases hle : h ≤ i
  · have e : (i + n - h) % n = i - h := by
      rw [show i + n - h = (i - h) + n by omega, Nat.add_mod_right]
      exact Nat.mod_eq_of_lt (by omega)
    rw [e] at hs ⊢
    rw [Nat.mod_eq_of_lt (by omega)]
    omega
  · have e : (i + n - h) % n = i + n - h := Nat.mod_eq_of_lt (by omega)
    rw [e] at hs ⊢
    by_cases hn : h + s < n
    · rw [Nat.mod_eq_of_lt hn]; omega
    · rw [show h + s = (h + s - n) + n by omega, Nat.add_mod_right, Nat.mod_eq_of_lt (by omega)]
      omega
theorem dist_lt {n h i : Nat} (hn : 0 < n) : dist n h i < n := Nat.mod_lt _ hn
def roadOk (T : List Pl) (k : Int) : List Nat → Bool
  | [] => true
  | s :: l => (T[roadIx T k s]?.getD pl0).st != 0 && roadOk T k l
def okR (T : List Pl) (i : Nat) (p : Pl) : Bool :=
  if p.st < 0 ∨ 2 < p.st ∨ (p.st ≠ 1 ∧ (p.ky ≠ 0 ∨ p.vl ≠ 0)) then false else if p.st ≠ 1 then true else if findL T p.ky ≠ (i : Int) then false else roadOk T p.ky (List.range (dist T.length (homeN T.length p.ky) i))
def allIx (f : Nat → Pl → Bool) : List Pl → Nat → Bool
  | [], _ => true
  | p :: l, i => f i p && allIx f l (i + 1)
def rightL (T : List Pl) : Bool := if T.length < 1 ∨ 8 < T.length then false else allIx (okR T) T 0
theorem range_drop {n i : Nat} (h : i < n) : (List.range n).drop i = i :: (List.range n).drop (i + 1) := by
  rw [List.drop_eq_getElem_cons (by simpa using h)]
  simp
theorem c_right (T : List Pl) (hT : T.length ≤ 1099511627776) : C Try.prog 34 [encT T] (.bool (rightL T)) := by
  refine fnOk mixed tyOk Try.func34 (code := Try.f34.body.getD .skip) rfl rfl rfl (gC_in ?_)
  have hlen : (T.map Pl.enc).length = T.length := List.length_map _
  repeat (first | (refine oR ?_; (conv => whnf)) | refine kOps ?_ | refine oNil ?_ | refine sSeq ?_ | refine sR ?_ | refine qSeqN ?_)
  refine oS rfl rfl rfl (fun h1 => ?_) (fun h1 => ?_)
  · rw [rightL, if_pos (by have := dT h1; simp at this; omega)]
    repeat (first | (refine oR ?_; (conv => whnf)) | refine kOps ?_ | refine oH ?_ | refine oNil ?_ | refine sSeq ?_ | refine sR ?_ | refine qSeqN ?_ | refine sT ?_ | refine sRet ?_ | refine qSeqR ?_ | (refine sBT ?_; (conv => whnf)))
    refine qEnd ?_
    conv => whnf
    rfl
  · have h1 := dF h1
    rw [hlen] at h1
    repeat (first | (refine oR ?_; (conv => whnf)) | refine kOps ?_ | (refine oG ?_; (conv => whnf)) | refine oNil ?_ | refine qSeqN ?_ | (refine sBF ?_; (conv => whnf)))
    refine sC rfl (fun h2 => ?_) (fun h2 => ?_)
    · rw [rightL, if_pos (by have := dT h2; simp at this; omega)]
      repeat (first | (refine oR ?_; (conv => whnf)) | refine kOps ?_ | refine oNil ?_ | refine sSeq ?_ | refine sR ?_ | refine qSeqN ?_ | refine sRet ?_ | refine qSeqR ?_)
      refine qEnd ?_
      conv => whnf
      rfl
    · have h2 := dF h2
      rw [hlen] at h2
      rw [rightL, if_neg (by omega)]
      repeat (first | (refine oR ?_; (conv => whnf)) | refine kOps ?_ | refine oNil ?_ | refine sSeq ?_ | refine sR ?_ | refine qSeqN ?_ | refine sSkip ?_ | refine sBlk ?_)
      refine sLoop (fun i => i ≤ T.length ∧ allIx (okR T) (T.drop i) i = allIx (okR T) T 0) (fun i => ⟨tl [(0, encT T), (3, eI T.length), (4, eI (i : Int))], Ll [], 73, 0, [], none⟩) (fun i => T.length - i) 0
        (.keep _ _ _ _ trivial ⟨rfl, congrArg (fun n : Nat => eI n) hlen, rfl, trivial⟩ rfl rfl) ⟨Nat.zero_le _, rfl⟩ fun i hi => ?_
      obtain ⟨hi, hall⟩ := hi
      repeat (first | (refine oR ?_; (conv => whnf)) | refine kOps ?_ | refine oNil ?_ | refine sSeq ?_ | refine sR ?_ | refine qSeqN ?_)
      refine sC rfl (fun h3 => ?_) (fun h3 => ?_)
      · have hlt : i < T.length := by have := dT h3; omega
        obtain ⟨p, hp⟩ : ∃ p, T[i]? = some p := ⟨_, List.getElem?_eq_getElem hlt⟩
        rw [drop_of hp, allIx] at hall
        repeat (first | (refine oR ?_; (conv => whnf)) | refine kOps ?_ | refine sSeq ?_ | refine sR ?_ | refine qSeqN ?_ | refine sSkip ?_ | refine sBlk ?_)
        refine ⟨i, _, rfl, enc_get hp, ?_⟩
        conv => whnf
        obtain ⟨st, ky, vl⟩ := p
        have hbad : okR T i ⟨st, ky, vl⟩ = false → allIx (okR T) T 0 = false := fun h => by rw [← hall, h]; rfl
        have hgood : okR T i ⟨st, ky, vl⟩ = true → allIx (okR T) (T.drop (i + 1)) (i + 1) = allIx (okR T) T 0 := fun h => by rw [← hall, h]; rfl
        have hs : st < 0 ∨ 2 < st ∨ st = 0 ∨ st = 1 ∨ st = 2 := by omega
        rcases hs with hs | hs | rfl | rfl | rfl
        · repeat (first | (refine oR ?_; (conv => whnf)) | refine kOps ?_ | refine oNil ?_ | refine sSeq ?_ | refine sR ?_ | refine qSeqN ?_)
          refine oS rfl rfl rfl (fun h4 => ?_) (fun h4 => ?_)
          · rw [hbad (if_pos (.inl hs))]
            repeat (first | (refine oR ?_; (conv => whnf)) | refine kOps ?_ | refine oH ?_ | refine oV ?_ | refine oNil ?_ | refine sSeq ?_ | refine sR ?_ | refine qSeqN ?_ | refine sT ?_ | refine sRet ?_ | refine qSeqR ?_ | refine qBlkR ?_ | refine qLoopR ?_ | (refine sBT ?_; (conv => whnf)))
            refine qEnd ?_
            conv => whnf
            rfl
          · exact absurd hs (dF h4)
        · repeat (first | (refine oR ?_; (conv => whnf)) | refine kOps ?_ | refine oNil ?_ | refine sSeq ?_ | refine sR ?_ | refine qSeqN ?_)
          refine oS rfl rfl rfl (fun h4 => ?_) (fun h4 => ?_)
          · exact absurd (dT h4) (by show ¬ st < 0; omega)
          · repeat (first | (refine oR ?_; (conv => whnf)) | refine kOps ?_ | (refine oG ?_; (conv => whnf)) | (refine sBF ?_; (conv => whnf)))
            refine oS rfl rfl rfl (fun h5 => ?_) (fun h5 => ?_)
            · rw [hbad (if_pos (.inr (.inl hs)))]
              repeat (first | (refine oR ?_; (conv => whnf)) | refine kOps ?_ | refine oH ?_ | refine oV ?_ | refine oNil ?_ | refine sSeq ?_ | refine sR ?_ | refine qSeqN ?_ | refine sT ?_ | refine sRet ?_ | refine qSeqR ?_ | refine qBlkR ?_ | refine qLoopR ?_ | (refine sBT ?_; (conv => whnf)))
              refine qEnd ?_
              conv => whnf
              rfl
            · exact absurd hs (dF h5)
        · repeat (first | (refine oR ?_; (conv => whnf)) | refine kOps ?_ | (refine oG ?_; (conv => whnf)) | refine oNil ?_ | refine sSeq ?_ | refine sR ?_ | refine qSeqN ?_ | (refine sBF ?_; (conv => whnf)))
          refine oS rfl rfl rfl (fun h4 => ?_) (fun h4 => ?_)
          · rw [hbad (if_pos (.inr (.inr ⟨by simp, .inl (by simpa using h4)⟩)))]
            repeat (first | (refine oR ?_; (conv => whnf)) | refine kOps ?_ | (refine oG ?_; (conv => whnf)) | refine oH ?_ | refine oNil ?_ | refine sSeq ?_ | refine sR ?_ | refine qSeqN ?_ | refine sT ?_ | refine sRet ?_ | refine qSeqR ?_ | refine qBlkR ?_ | refine qLoopR ?_ | (refine sBT ?_; (conv => whnf)) | (refine sBF ?_; (conv => whnf)))
            refine qEnd ?_
            conv => whnf
            rfl
          · have h4 : ky = 0 := by simpa using h4
            repeat (first | (refine oR ?_; (conv => whnf)) | refine kOps ?_ | (refine oG ?_; (conv => whnf)) | refine oNil ?_ | refine qSeqN ?_ | (refine sBT ?_; (conv => whnf)) | (refine sBF ?_; (conv => whnf)))
            refine sC rfl (fun h5 => ?_) (fun h5 => ?_)
            · rw [hbad (if_pos (.inr (.inr ⟨by simp, .inr (by simpa using h5)⟩)))]
              repeat (first | (refine oR ?_; (conv => whnf)) | refine kOps ?_ | refine oNil ?_ | refine sSeq ?_ | refine sR ?_ | refine qSeqN ?_ | refine sRet ?_ | refine qSeqR ?_ | refine qBlkR ?_ | refine qLoopR ?_)
              refine qEnd ?_
              conv => whnf
              rfl
            · have h5 : vl = 0 := by simpa using h5
              repeat (first | (refine oR ?_; (conv => whnf)) | refine kOps ?_ | refine oNil ?_ | refine sSeq ?_ | refine sR ?_ | refine qSeqN ?_ | refine sSkip ?_ | refine sT ?_ | refine sExit ?_ | refine qSeqE ?_ | refine qX ?_)
              exact qLoopN (i + 1) .kp ⟨by omega, hgood (by rw [okR, if_neg (by simp [h4, h5]), if_pos (by simp)])⟩ (by omega)
        · repeat (first | (refine oR ?_; (conv => whnf)) | refine kOps ?_ | (refine oG ?_; (conv => whnf)) | refine oH ?_ | refine oV ?_ | refine oNil ?_ | refine sSeq ?_ | refine sR ?_ | refine qSeqN ?_ | refine sSkip ?_ | refine sF ?_ | (refine sBF ?_; (conv => whnf)))
          (refine oCall rfl (.inl rfl) rfl rfl rfl (.fz [] _) rfl ⟨rfl, c_find T ky hT, ?_⟩; (conv => whnf))
          repeat (first | (refine oR ?_; (conv => whnf)) | refine kOps ?_ | refine oNil ?_ | refine qSeqN ?_)
          refine sC rfl (fun h4 => ?_) (fun h4 => ?_)
          · rw [hbad (by rw [okR, if_neg (by simp), if_neg (by simp), if_pos (by simpa using h4)])]
            repeat (first | (refine oR ?_; (conv => whnf)) | refine kOps ?_ | refine oNil ?_ | refine sSeq ?_ | refine sR ?_ | refine qSeqN ?_ | refine sRet ?_ | refine qSeqR ?_ | refine qBlkR ?_ | refine qLoopR ?_)
            refine qEnd ?_
            conv => whnf
            rfl
          · have h4 : findL T ky = (i : Int) := by simpa using h4
            have h0 : 0 < T.length := by omega
            obtain ⟨hh, hhl⟩ := home_lt h0 hT ky
            have hok : okR T i ⟨1, ky, vl⟩ = roadOk T ky (List.range (dist T.length (homeN T.length ky) i)) := by rw [okR, if_neg (by simp), if_neg (by simp), if_neg (by simpa using h4)]
            rw [hok] at hgood hbad
            repeat (first | (refine oR ?_; (conv => whnf)) | refine kOps ?_ | refine sSeq ?_ | refine sR ?_ | refine qSeqN ?_ | refine sSkip ?_)
            (refine oCall rfl (.inl rfl) rfl rfl rfl (.fz [] _) rfl ⟨rfl, c_home2 T.length ky, ?_⟩; (conv => whnf))
            repeat (first | (refine oR ?_; (conv => whnf)) | refine kOps ?_ | refine oNil ?_ | refine qSeqN ?_ | refine sBlk ?_)
            have hd := dist_lt (h := homeN T.length ky) (i := i) h0
            generalize hdd : dist T.length (homeN T.length ky) i = d at hgood hbad hd
            refine sLoop (fun s => s ≤ d ∧ roadOk T ky ((List.range d).drop s) = roadOk T ky (List.range d)) (fun s => ⟨tl [(0, encT T), (3, eI T.length), (4, eI (i : Int)), (6, eI (roadIx T ky s))], Ll [], 73, 1, [], none⟩) (fun s => d - s) 0
              (.keep _ _ _ _ trivial ⟨rfl, rfl, rfl, by rw [roadIx_zero ky h0 hT, ← hh]; rfl, trivial⟩ rfl rfl) ⟨Nat.zero_le _, rfl⟩ fun s hs => ?_
            obtain ⟨hs, hgo⟩ := hs
            have hiff := dist_iff (s := s) hhl hlt (by rw [hdd]; exact hs)
            rw [hdd] at hiff
            have hlt2 : roadIx T ky s < T.length := Nat.mod_lt _ h0
            obtain ⟨q, hq⟩ : ∃ q, T[roadIx T ky s]? = some q := ⟨_, List.getElem?_eq_getElem hlt2⟩
            repeat (first | (refine oR ?_; (conv => whnf)) | refine kOps ?_ | refine oNil ?_ | refine sSeq ?_ | refine sR ?_ | refine qSeqN ?_)
            refine sC rfl (fun h5 => ?_) (fun h5 => ?_)
            · have h5 : s < d := by
                have : ¬ roadIx T ky s = i := by simp at h5; omega
                have hne : s ≠ d := fun h => this (hiff.2 h)
                omega
              rw [range_drop h5, roadOk, hq] at hgo
              repeat (first | (refine oR ?_; (conv => whnf)) | refine kOps ?_ | refine sSeq ?_ | refine sR ?_ | refine qSeqN ?_ | refine sSkip ?_ | refine sBlk ?_)
              refine ⟨_, _, rfl, enc_get hq, ?_⟩
              conv => whnf
              repeat (first | (refine oR ?_; (conv => whnf)) | refine kOps ?_ | refine oNil ?_ | refine qSeqN ?_)
              refine sC rfl (fun h6 => ?_) (fun h6 => ?_)
              · have h6 : q.st = 0 := by simpa using h6
                rw [hbad (by rw [← hgo]; simp [h6])]
                repeat (first | (refine oR ?_; (conv => whnf)) | refine kOps ?_ | refine oNil ?_ | refine sSeq ?_ | refine sR ?_ | refine qSeqN ?_ | refine sRet ?_ | refine qSeqR ?_ | refine qBlkR ?_ | refine qLoopR ?_)
                refine qEnd ?_
                conv => whnf
                rfl
              · have h6 : ¬ q.st = 0 := by simpa using h6
                repeat (first | (refine oR ?_; (conv => whnf)) | refine kOps ?_ | refine sR ?_ | refine qSeqN ?_ | refine sSkip ?_ | refine qBlkN ?_)
                refine ⟨by omega, ?_⟩
                repeat (first | (refine oR ?_; (conv => whnf)) | refine kOps ?_ | refine oNil ?_)
                exact qLoopN (s + 1) (.keep _ _ _ _ trivial ⟨rfl, rfl, rfl, congrArg eI (road_step h0 hT), trivial⟩ rfl rfl) ⟨h5, by rw [← hgo]; simp [h6]⟩ (by omega)
            · have h5 : roadIx T ky s = i := by simp at h5; omega
              have h5 : s = d := hiff.1 h5
              subst h5
              repeat (first | (refine oR ?_; (conv => whnf)) | refine kOps ?_ | refine oNil ?_ | refine sR ?_ | refine qSeqN ?_ | refine sExit ?_ | refine qSeqE ?_ | refine qBlkN ?_ | refine qX ?_ | refine qLoopE ?_)
              exact qLoopN (i + 1) .kp ⟨by omega, hgood (by rw [← hgo, List.drop_eq_nil_of_le (by simp)]; rfl)⟩ (by omega)
        · repeat (first | (refine oR ?_; (conv => whnf)) | refine kOps ?_ | (refine oG ?_; (conv => whnf)) | refine oNil ?_ | refine sSeq ?_ | refine sR ?_ | refine qSeqN ?_ | (refine sBF ?_; (conv => whnf)))
          refine oS rfl rfl rfl (fun h4 => ?_) (fun h4 => ?_)
          · rw [hbad (if_pos (.inr (.inr ⟨by simp, .inl (by simpa using h4)⟩)))]
            repeat (first | (refine oR ?_; (conv => whnf)) | refine kOps ?_ | (refine oG ?_; (conv => whnf)) | refine oH ?_ | refine oNil ?_ | refine sSeq ?_ | refine sR ?_ | refine qSeqN ?_ | refine sT ?_ | refine sRet ?_ | refine qSeqR ?_ | refine qBlkR ?_ | refine qLoopR ?_ | (refine sBT ?_; (conv => whnf)) | (refine sBF ?_; (conv => whnf)))
            refine qEnd ?_
            conv => whnf
            rfl
          · have h4 : ky = 0 := by simpa using h4
            repeat (first | (refine oR ?_; (conv => whnf)) | refine kOps ?_ | (refine oG ?_; (conv => whnf)) | refine oNil ?_ | refine qSeqN ?_ | (refine sBT ?_; (conv => whnf)) | (refine sBF ?_; (conv => whnf)))
            refine sC rfl (fun h5 => ?_) (fun h5 => ?_)
            · rw [hbad (if_pos (.inr (.inr ⟨by simp, .inr (by simpa using h5)⟩)))]
              repeat (first | (refine oR ?_; (conv => whnf)) | refine kOps ?_ | refine oNil ?_ | refine sSeq ?_ | refine sR ?_ | refine qSeqN ?_ | refine sRet ?_ | refine qSeqR ?_ | refine qBlkR ?_ | refine qLoopR ?_)
              refine qEnd ?_
              conv => whnf
              rfl
            · have h5 : vl = 0 := by simpa using h5
              repeat (first | (refine oR ?_; (conv => whnf)) | refine kOps ?_ | refine oNil ?_ | refine sSeq ?_ | refine sR ?_ | refine qSeqN ?_ | refine sSkip ?_ | refine sT ?_ | refine sExit ?_ | refine qSeqE ?_ | refine qX ?_)
              exact qLoopN (i + 1) .kp ⟨by omega, hgood (by rw [okR, if_neg (by simp [h4, h5]), if_pos (by simp)])⟩ (by omega)
      · have hge : T.length ≤ i := by have := dF h3; omega
        rw [List.drop_eq_nil_of_le hge] at hall
        rw [← hall]
        repeat (first | (refine oR ?_; (conv => whnf)) | refine kOps ?_ | refine oNil ?_ | refine sSeq ?_ | refine sR ?_ | refine qSeqN ?_ | refine sRet ?_ | refine sExit ?_ | refine qSeqE ?_ | refine qX ?_ | refine qLoopE ?_)
        refine qEnd ?_
        conv => whnf
        rfl
end Go.Proofs.Ytcfbhojpemjjpaa
