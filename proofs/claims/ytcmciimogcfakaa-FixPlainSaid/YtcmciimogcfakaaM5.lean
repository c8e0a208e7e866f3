/- Part 5 of the walk that the law rests on: Fp, Fq, Fr, Fs, Ft. -/
import Derived.Test.YtcmciimogcfakaaM4
/- What is seen: the closure of split. -/
set_option linter.unusedVariables false
set_option linter.unusedSimpArgs false
namespace Go.Proofs.Ytcmciimogcfakaa
open Go Go.RowKit
open Classical

def mE (seen : List Int) : List (Int × AV) := seen.map fun h => (h, .bool true)
theorem mapGet_mE : ∀ (seen : List Int) (h : Int), mapGet (mE seen) h = if h ∈ seen then some (.bool true) else none
  | [], h => by simp [mapGet, mE]
  | x :: seen, h => by
    have ih := mapGet_mE seen h
    unfold mapGet mE at ih ⊢
    rw [List.map_cons, List.find?_cons]
    by_cases hx : x = h
    · simp [hx]
    · rw [show ((x, AV.bool true).1 == h) = false by simp [hx]]
      simp only
      rw [ih]
      have : h ≠ x := fun e => hx e.symm
      simp [this]
theorem mapSet_mE : ∀ (seen : List Int) (h : Int), h ∉ seen → mapSet (mE seen) h (.bool true) = mE (seen ++ [h])
  | [], h, _ => rfl
  | x :: seen, h, hn => by
    have hx : ¬ x = h := fun e => hn (by simp [e])
    have ih := mapSet_mE seen h fun hm => hn (by simp [hm])
    unfold mE at ih ⊢
    rw [List.map_cons, mapSet, if_neg hx, ih]
    rfl
/-- The blocks that see turns. -/
def seeL (q seen : List Int) : List Blk := [.box 100 [.mp 2], .box 102 [encI q, eI 24], .map .i64 (mE seen)]
theorem mE_map (g : AV → AV) (seen : List Int) (h : g (.bool true) = .bool true) : (Blk.map .i64 (mE seen)).map' g = .map .i64 (mE seen) := rfl
theorem see_Ll {q seen : List Int} : Ll [(0, .box 100 [.mp 2]), (1, .box 102 [encI q, eI 24]), (2, .map .i64 (mE seen))] = lk (seeL q seen) := by
  funext i
  rcases i with _ | _ | _ | i <;> rfl
theorem see_K {es : List Ent} {q seen : List Int} (h : es.length = (seeL q seen).length) : ∀ i, i < es.length → memB [0, 1, 2] i = true := by
  intro i hi
  rw [h] at hi
  have : i < 3 := hi
  rcases (show i = 0 ∨ i = 1 ∨ i = 2 by omega) with rfl | rfl | rfl <;> rfl
theorem c_see_no (cs : List Ce) (la sr h : Int) (q seen : List Int) (hR : Rs cs) (hn : lv cs h = false ∨ h ∈ seen) : CE Try.prog 49 [eI h, .vptr [encC cs, eI la, eI sr], .ptr 0 0 0, .ptr 1 0 0] (seeL q seen) (.tup []) (seeL q seen) := by
  refine fnOkE mixed tyOk Try.func49 (code := Try.f49.body.getD .skip) rfl rfl rfl rfl rfl fun es hes => (gC_in ?_)
  have hg := c_get6 ⟨cs, la, sr⟩ h hR
  have hm := mapGet_mE seen h
  unfold lv at hn
  rcases rGet_cases cs h with ⟨c, hl, hr⟩ | ⟨hl, e, he, hr⟩
  · rw [hr] at hg
    rw [hl] at hn
    have hin : h ∈ seen := hn.resolve_left (by simp)
    rw [if_pos hin] at hm
    repeat (first | (refine oR ?_; (conv => whnf)) | refine kOps ?_ | refine sSeq ?_ | refine sR ?_)
    (refine oCall rfl (.inl rfl) rfl rfl rfl (.fz [] _) rfl ⟨rfl, hg, ?_⟩; (conv => whnf))
    repeat (first | (refine oR ?_; (conv => whnf)) | refine kOps ?_ | (refine oG ?_; (conv => whnf)) | refine oNil ?_ | refine sSeq ?_ | refine sR ?_ | refine qSeqN ?_)
    refine ⟨_, hm, ?_⟩
    conv => whnf
    repeat (first | (refine oR ?_; (conv => whnf)) | refine kOps ?_ | (refine oG ?_; (conv => whnf)) | refine oNil ?_ | refine qSeqN ?_ | refine sSkip ?_ | refine sF ?_ | (refine sBT ?_; (conv => whnf)))
    exact qEndEN (efEnd_of [] [(0, .box 100 [.mp 2]), (1, .box 102 [encI q, eI 24]), (2, .map .i64 (mE seen))] ⟨rfl, rfl, mE_map _ _ rfl, trivial⟩ trivial rfl rfl see_Ll (see_K hes) rfl)
  · rw [hr] at hg
    repeat (first | (refine oR ?_; (conv => whnf)) | refine kOps ?_ | refine sSeq ?_ | refine sR ?_)
    (refine oCall rfl (.inl rfl) rfl rfl rfl (.fz [] _) rfl ⟨rfl, hg, ?_⟩; (conv => whnf))
    repeat (first | (refine oR ?_; (conv => whnf)) | refine kOps ?_ | refine oNil ?_ | refine sSeq ?_ | refine sR ?_ | refine qSeqN ?_)
    refine oS rfl rfl rfl (fun h1 => ?_) (fun h1 => ?_)
    · simp at h1
      exact absurd h1 he
    repeat (first | (refine oR ?_; (conv => whnf)) | refine kOps ?_ | refine oH ?_ | refine oNil ?_ | refine qSeqN ?_ | refine sSkip ?_ | refine sF ?_ | (refine sBF ?_; (conv => whnf)))
    exact qEndEN (efEnd_of [] [(0, .box 100 [.mp 2]), (1, .box 102 [encI q, eI 24]), (2, .map .i64 (mE seen))] ⟨rfl, rfl, mE_map _ _ rfl, trivial⟩ trivial rfl rfl see_Ll (see_K hes) rfl)
theorem c_see_yes (cs : List Ce) (la sr h : Int) (q seen : List Int) (hR : Rs cs) (hl : lv cs h = true) (hn : h ∉ seen) (hq : q.length < 24) : CE Try.prog 49 [eI h, .vptr [encC cs, eI la, eI sr], .ptr 0 0 0, .ptr 1 0 0] (seeL q seen) (.tup []) (seeL (q ++ [h]) (seen ++ [h])) := by
  refine fnOkE mixed tyOk Try.func49 (code := Try.f49.body.getD .skip) rfl rfl rfl rfl rfl fun es hes => (gC_in ?_)
  have hg := c_get6 ⟨cs, la, sr⟩ h hR
  have hm := mapGet_mE seen h
  have hms := mapSet_mE seen h hn
  have hp := c_push q 24 h (by omega) (by omega)
  unfold lv at hl
  rcases rGet_cases cs h with ⟨c, hl2, hr⟩ | ⟨hl2, e, he, hr⟩
  · rw [hr] at hg
    rw [if_neg hn] at hm
    repeat (first | (refine oR ?_; (conv => whnf)) | refine kOps ?_ | refine sSeq ?_ | refine sR ?_)
    (refine oCall rfl (.inl rfl) rfl rfl rfl (.fz [] _) rfl ⟨rfl, hg, ?_⟩; (conv => whnf))
    repeat (first | (refine oR ?_; (conv => whnf)) | refine kOps ?_ | (refine oG ?_; (conv => whnf)) | refine oNil ?_ | refine sSeq ?_ | refine sR ?_ | refine qSeqN ?_)
    refine ⟨_, hm, ?_⟩
    conv => whnf
    repeat (first | (refine oR ?_; (conv => whnf)) | refine kOps ?_ | (refine oG ?_; (conv => whnf)) | refine oNil ?_ | refine sSeq ?_ | refine sR ?_ | refine qSeqN ?_ | refine sT ?_ | (refine sBT ?_; (conv => whnf)))
    (refine oCall rfl (.inl rfl) rfl rfl rfl (.fz [] _) rfl ⟨rfl, hp, ?_⟩; (conv => whnf))
    repeat (first | (refine oR ?_; (conv => whnf)) | refine kOps ?_ | refine oNil ?_)
    exact qEndEN (efEnd_of [] [(0, .box 100 [.mp 2]), (1, .box 102 [encI (q ++ [h]), eI 24]), (2, .map .i64 (mE (seen ++ [h])))] ⟨rfl, rfl, congrArg (fun z => Blk.map .i64 z) hms, trivial⟩ trivial rfl rfl see_Ll (see_K hes) rfl)
  · rw [hl2] at hl
    cases hl
end Go.Proofs.Ytcmciimogcfakaa

/- reach.split, with what lives given. -/
set_option linter.unusedVariables false
set_option linter.unusedSimpArgs false
namespace Go.Proofs.Ytcmciimogcfakaa
open Go Go.RowKit
open Classical

/-- What is reached from l. -/
inductive Rch (cs : List Ce) (l : List Int) : Int → Prop
  | base {h : Int} (hm : h ∈ l) (hv : lv cs h = true) : Rch cs l h
  | step {a h : Int} (ha : Rch cs l a) (hm : h ∈ outL cs a) (hv : lv cs h = true) : Rch cs l h
theorem Rch.lives {cs : List Ce} {l : List Int} {h : Int} (hr : Rch cs l h) : lv cs h = true := by cases hr <;> assumption
/-- What has been seen when: q is still to be looked at. -/
structure Seen (cs : List Ce) (l : List Int) (q seen : List Int) : Prop where
  nd : seen.Nodup
  rc : ∀ h ∈ seen, Rch cs l h
  qs : ∃ old, seen = old ++ q ∧ ∀ a ∈ old, ∀ h ∈ outL cs a, lv cs h = true → h ∈ seen
theorem live_mem {cs : List Ce} {h : Int} (hv : lv cs h = true) : h ∈ liveL cs := by
  unfold lv liveC at hv
  split at hv
  · rename_i i he
    obtain ⟨c, hc, ht, hp⟩ := findH_some he
    rw [sAt_of hc] at hv
    have h1 : c.st = 1 := by
      rcases ht with h | h
      · exact h
      · rw [if_pos h] at hv
        cases hv
    rw [liveL, List.mem_map]
    exact ⟨i, liveX_mem.2 ⟨c, hc, h1⟩, by rw [hd_of hc]; exact hp⟩
  · cases hv
theorem lv_of {cs : List Ce} (hR : Rs cs) {h : Int} (hm : h ∈ liveL cs) : lv cs h = true := by
  rw [liveL, List.mem_map] at hm
  obtain ⟨i, hi, rfl⟩ := hm
  obtain ⟨c, hc, h1⟩ := liveX_mem.1 hi
  rw [lv, liveC, findH_of hR hc (.inl h1) (hd_of hc).symm]
  simp only [sAt_of hc, h1]
  simp [hc]
theorem nodup_le {α : Type} : ∀ {l m : List α}, l.Nodup → (∀ x ∈ l, x ∈ m) → l.length ≤ m.length
  | [], m, _, _ => Nat.zero_le _
  | x :: l, m, hn, hs => by
    rw [List.nodup_cons] at hn
    obtain ⟨a, b, rfl⟩ := List.append_of_mem (hs x (by simp))
    have := nodup_le (l := l) (m := a ++ b) hn.2 fun y hy => by
      have := hs y (by simp [hy])
      have hne : y ≠ x := fun e => hn.1 (e ▸ hy)
      simp [hne] at this ⊢
      exact this
    simp at this ⊢
    omega
theorem Seen.len {cs : List Ce} {l q seen : List Int} (hR : Rs cs) (h : Seen cs l q seen) : seen.length ≤ 24 :=
  Nat.le_trans (nodup_le h.nd fun x hx => live_mem (h.rc x hx).lives) (liveL_len hR)
theorem Seen.lt {cs : List Ce} {l q seen : List Int} (hR : Rs cs) (h : Seen cs l q seen) {x : Int} (hv : lv cs x = true) (hn : x ∉ seen) : seen.length < 24 := by
  have hnd : (x :: seen).Nodup := List.nodup_cons.2 ⟨hn, h.nd⟩
  have := nodup_le (m := liveL cs) hnd fun y hy => by
    rcases List.mem_cons.1 hy with rfl | hy
    · exact live_mem hv
    · exact live_mem (h.rc y hy).lives
  have := liveL_len hR
  simp at *
  omega
theorem Seen.add {cs : List Ce} {l q seen : List Int} (h : Seen cs l q seen) {x : Int} (hx : Rch cs l x) (hn : x ∉ seen) : Seen cs l (q ++ [x]) (seen ++ [x]) := by
  obtain ⟨h1, h2, old, h3, h4⟩ := h
  refine ⟨?_, fun y hy => ?_, old, by rw [h3, List.append_assoc], fun a ha y hy hv => by have := h4 a ha y hy hv; simp [this]⟩
  · rw [List.nodup_append]
    exact ⟨h1, by simp, fun a ha b hb => by simp at hb; subst hb; exact fun e => hn (e ▸ ha)⟩
  · rcases List.mem_append.1 hy with hy | hy
    · exact h2 y hy
    · simp at hy
      exact hy ▸ hx
theorem Seen.done {cs : List Ce} {l seen : List Int} (h : Seen cs l [] seen) (hl : ∀ x ∈ l, lv cs x = true → x ∈ seen) (x : Int) : x ∈ seen ↔ Rch cs l x := by
  obtain ⟨h1, h2, old, h3, h4⟩ := h
  rw [List.append_nil] at h3
  subst h3
  refine ⟨h2 x, fun hr => ?_⟩
  induction hr with
  | base hm hv => exact hl _ hm hv
  | step _ hm hv ih => exact h4 _ ih _ hm hv
/-- As Seen, while h's names are looked at. -/
structure Seen2 (cs : List Ce) (l : List Int) (h : Int) (k : Nat) (q seen : List Int) : Prop where
  nd : seen.Nodup
  rc : ∀ x ∈ seen, Rch cs l x
  qs : ∃ old, seen = old ++ h :: q ∧ ∀ a ∈ old, ∀ x ∈ outL cs a, lv cs x = true → x ∈ seen
  ot : ∀ (j : Nat) (x : Int), j < k → (outL cs h)[j]? = some x → lv cs x = true → x ∈ seen
theorem Seen.two {cs : List Ce} {l q seen : List Int} {h : Int} (hS : Seen cs l (h :: q) seen) : Seen2 cs l h 0 q seen :=
  ⟨hS.nd, hS.rc, hS.qs, fun j x hj => by omega⟩
theorem Seen2.one {cs : List Ce} {l q seen : List Int} {h : Int} {k : Nat} (hS : Seen2 cs l h k q seen) (hk : (outL cs h).length ≤ k) : Seen cs l q seen := by
  obtain ⟨h1, h2, ⟨old, h3, h4⟩, h5⟩ := hS
  refine ⟨h1, h2, old ++ [h], by rw [h3]; simp, fun a ha x hx hv => ?_⟩
  rcases List.mem_append.1 ha with ha | ha
  · exact h4 a ha x hx hv
  · simp at ha
    subst ha
    obtain ⟨j, hj⟩ := List.mem_iff_getElem?.1 hx
    exact h5 j x (by have := lt_of_get hj; omega) hj hv
theorem Seen2.add {cs : List Ce} {l q seen : List Int} {h : Int} {k : Nat} (hS : Seen2 cs l h k q seen) {x : Int} (hx : (outL cs h)[k]? = some x) (hv : lv cs x = true) (hn : x ∉ seen) : Seen2 cs l h (k + 1) (q ++ [x]) (seen ++ [x]) := by
  obtain ⟨h1, h2, ⟨old, h3, h4⟩, h5⟩ := hS
  refine ⟨?_, fun y hy => ?_, ⟨old, by rw [h3]; simp, fun a ha y hy hv => by have := h4 a ha y hy hv; simp [this]⟩, fun j y hj hy hv => ?_⟩
  · rw [List.nodup_append]
    exact ⟨h1, by simp, fun a ha b hb => by simp at hb; subst hb; exact fun e => hn (e ▸ ha)⟩
  · rcases List.mem_append.1 hy with hy | hy
    · exact h2 y hy
    · simp at hy
      subst hy
      exact .step (h2 h (by rw [h3]; simp)) (List.mem_of_getElem? hx) hv
  · rcases (show j < k ∨ j = k by omega) with hj | rfl
    · have := h5 j y hj hy hv
      simp [this]
    · rw [hx] at hy
      cases hy
      simp
theorem Seen2.skip {cs : List Ce} {l q seen : List Int} {h : Int} {k : Nat} (hS : Seen2 cs l h k q seen) {x : Int} (hx : (outL cs h)[k]? = some x) (hn : lv cs x = false ∨ x ∈ seen) : Seen2 cs l h (k + 1) q seen := by
  refine ⟨hS.nd, hS.rc, hS.qs, fun j y hj hy hv => ?_⟩
  rcases (show j < k ∨ j = k by omega) with hj | rfl
  · exact hS.ot j y hj hy hv
  · rw [hx] at hy
    cases hy
    exact hn.resolve_left (by rw [hv]; decide)
theorem Seen2.lt {cs : List Ce} {l q seen : List Int} {h : Int} {k : Nat} (hR : Rs cs) (hS : Seen2 cs l h k q seen) {x : Int} (hv : lv cs x = true) (hn : x ∉ seen) : seen.length < 24 := by
  have hnd : (x :: seen).Nodup := List.nodup_cons.2 ⟨hn, hS.nd⟩
  have := nodup_le (m := liveL cs) hnd fun y hy => by
    rcases List.mem_cons.1 hy with rfl | hy
    · exact live_mem hv
    · exact live_mem (hS.rc y hy).lives
  have := liveL_len hR
  simp at *
  omega
end Go.Proofs.Ytcmciimogcfakaa

/- reach.split. -/
set_option linter.unusedVariables false
set_option linter.unusedSimpArgs false
namespace Go.Proofs.Ytcmciimogcfakaa
open Go Go.RowKit
open Classical

/-- What of all that live is so. -/
noncomputable def fromL (cs : List Ce) (l : List Int) : List Int := (liveL cs).filter fun h => decide (Rch cs l h)
noncomputable def restL (cs : List Ce) (l : List Int) : List Int := (liveL cs).filter fun h => !decide (Rch cs l h)
set_option maxRecDepth 100000 in
theorem c_split (cs : List Ce) (la sr : Int) (l : List Int) (hR : Rs cs) (hl : l.length ≤ 1099511627776) (hlv : C Try.prog 45 [tS cs la sr] (encI (liveL cs))) : C Try.prog 25 [tS cs la sr, encI l] (.tup [encI (fromL cs l), encI (restL cs l)]) := by
  refine fnOk mixed tyOk Try.func25 (code := Try.f25.body.getD .skip) rfl rfl rfl (gC_in ?_)
  have hlen : (l.map fun n => [eI n]).length = l.length := List.length_map _
  repeat (first | (refine oR ?_; (conv => whnf)) | refine kOps ?_ | refine oNil ?_ | refine sSeq ?_ | refine sR ?_ | refine qSeqN ?_)
  (refine oCall rfl (.inl rfl) rfl rfl rfl (.fz [] _) rfl ⟨rfl, c_qnew 24, ?_⟩; (conv => whnf))
  repeat (first | (refine oR ?_; (conv => whnf)) | refine kOps ?_ | refine oNil ?_ | refine sSeq ?_ | refine sR ?_ | refine qSeqN ?_ | refine sBlk ?_)
  refine sLoop (α := Nat × List Int × List Int) (fun a => a.1 ≤ l.length ∧ Seen cs l a.2.1 a.2.2 ∧ ∀ (j : Nat) (x : Int), j < a.1 → l[j]? = some x → lv cs x = true → x ∈ a.2.2) (fun a => ⟨tl [(2, .vptr [encC cs, eI la, eI sr]), (4, .nilsl), (5, .nilsl), (6, .ptr 2 0 0), (7, .ptr 3 0 0), (8, .fn 49 [.vptr [encC cs, eI la, eI sr], .ptr 2 0 0, .ptr 3 0 0]), (21, encI l), (22, eI l.length), (23, eI (a.1 : Int))], Ll [(1, .map .i64 (mE a.2.2)), (2, .box 100 [.mp 1]), (3, .box 102 [encI a.2.1, eI 24])], 74, 4, [], none⟩) (fun a => l.length - a.1) (0, [], [])
    (.trans (.fz _ [0]) (.keep _ _ _ _ ⟨rfl, rfl, rfl, trivial⟩ ⟨rfl, rfl, rfl, rfl, rfl, rfl, rfl, congrArg (fun n : Nat => eI n) hlen, rfl, trivial⟩ rfl rfl)) ⟨Nat.zero_le _, ⟨by simp, by simp, [], rfl, by simp⟩, fun j x hj => by simp at hj⟩ fun a hi => ?_
  obtain ⟨i, q, seen⟩ := a
  obtain ⟨hi, hS, hok⟩ := hi
  simp only at hi hS hok
  repeat (first | (refine oR ?_; (conv => whnf)) | refine kOps ?_ | refine oNil ?_ | refine sSeq ?_ | refine sR ?_ | refine qSeqN ?_)
  refine sC rfl (fun h1 => ?_) (fun h1 => ?_)
  · have hlt : i < l.length := by have := dT h1; omega
    obtain ⟨h, hh⟩ : ∃ h, l[i]? = some h := ⟨_, List.getElem?_eq_getElem hlt⟩
    repeat (first | (refine oR ?_; (conv => whnf)) | refine sSeq ?_ | refine sR ?_ | refine qSeqN ?_ | refine sSkip ?_ | refine sBlk ?_)
    refine ⟨i, _, rfl, encI_get hh, ?_⟩
    conv => whnf
    repeat (first | (refine oR ?_; (conv => whnf)) | refine kOps ?_ | refine oNil ?_ | refine sR ?_ | refine qSeqN ?_)
    by_cases hs : lv cs h = true ∧ h ∉ seen
    · have hq : q.length < 24 := by
        have := hS.lt hR hs.1 hs.2
        obtain ⟨old, ho, _⟩ := hS.qs
        rw [ho, List.length_append] at this
        omega
      refine oCall rfl (.inl rfl) rfl rfl rfl (.ef [2, 3, 1] (.tup []) (seeL (q ++ [h]) (seen ++ [h]))) rfl ⟨⟨rfl, rfl, rfl, rfl⟩, c_see_yes cs la sr h q seen hR hs.1 hs.2 hq, ?_⟩
      conv => whnf
      repeat (first | (refine oR ?_; (conv => whnf)) | refine kOps ?_ | refine oNil ?_ | refine sR ?_ | refine qSeqN ?_ | refine qBlkN ?_)
      refine qLoopN (i + 1, q ++ [h], seen ++ [h]) .kp ⟨hlt, hS.add (.base (List.mem_of_getElem? hh) hs.1) hs.2, fun j x hj hx hv => ?_⟩ (by show l.length - (i + 1) < l.length - i; omega)
      rcases (show j < i ∨ j = i by have : j < i + 1 := hj; omega) with hj | rfl
      · have := hok j x hj hx hv
        exact List.mem_append.2 (.inl this)
      · rw [hh] at hx
        cases hx
        exact List.mem_append.2 (.inr (by simp))
    · have hs' : lv cs h = false ∨ h ∈ seen := by
        cases hv : lv cs h with
        | false => exact .inl rfl
        | true => exact .inr (Classical.byContradiction fun hn => hs ⟨hv, hn⟩)
      refine oCall rfl (.inl rfl) rfl rfl rfl (.ef [2, 3, 1] (.tup []) (seeL q seen)) rfl ⟨⟨rfl, rfl, rfl, rfl⟩, c_see_no cs la sr h q seen hR hs', ?_⟩
      conv => whnf
      repeat (first | (refine oR ?_; (conv => whnf)) | refine kOps ?_ | refine oNil ?_ | refine sR ?_ | refine qSeqN ?_ | refine qBlkN ?_)
      refine qLoopN (i + 1, q, seen) .kp ⟨hlt, hS, fun j x hj hx hv => ?_⟩ (by show l.length - (i + 1) < l.length - i; omega)
      rcases (show j < i ∨ j = i by have : j < i + 1 := hj; omega) with hj | rfl
      · exact hok j x hj hx hv
      · rw [hh] at hx
        cases hx
        exact hs'.resolve_left (by rw [hv]; decide)
  · have hge : l.length ≤ i := by have := dF h1; omega
    repeat (first | refine sSeq ?_ | refine qSeqN ?_ | refine sBlk ?_ | refine sExit ?_ | refine qSeqE ?_ | refine qX ?_ | refine qLoopE ?_)
    refine sLoop (α := List Int × List Int) (fun a => Seen cs l a.1 a.2 ∧ ∀ x ∈ l, lv cs x = true → x ∈ a.2) (fun a => ⟨tl [(2, .vptr [encC cs, eI la, eI sr]), (4, .nilsl), (5, .nilsl), (6, .ptr 2 0 0), (7, .ptr 3 0 0), (8, .fn 49 [.vptr [encC cs, eI la, eI sr], .ptr 2 0 0, .ptr 3 0 0])], Ll [(1, .map .i64 (mE a.2)), (2, .box 100 [.mp 1]), (3, .box 102 [encI a.1, eI 24])], 74, 4, [], none⟩) (fun a => 2 * (24 - a.2.length) + a.1.length) (q, seen)
      .kp ⟨hS, fun x hx hv => by
        obtain ⟨j, hj⟩ := List.mem_iff_getElem?.1 hx
        exact hok j x (by have := lt_of_get hj; omega) hj hv⟩ fun b hb => ?_
    clear hS hok
    obtain ⟨q, seen⟩ := b
    obtain ⟨hS, hok⟩ := hb
    simp only at hS hok
    repeat (first | (refine oR ?_; (conv => whnf)) | refine kOps ?_ | refine sSeq ?_ | refine sR ?_)
    (refine oCall rfl (.inl rfl) rfl rfl rfl (.fz [] _) rfl ⟨rfl, c_qlen q 24, ?_⟩; (conv => whnf))
    repeat (first | (refine oR ?_; (conv => whnf)) | refine kOps ?_ | refine oNil ?_ | refine qSeqN ?_)
    cases q with
    | nil =>
      repeat (first | (refine oR ?_; (conv => whnf)) | refine kOps ?_ | refine sSeq ?_ | refine sR ?_ | refine qSeqN ?_ | refine sF ?_ | refine sExit ?_ | refine qSeqE ?_ | refine qX ?_ | refine qLoopE ?_)
      (refine oCall rfl (.inl rfl) rfl rfl rfl (.fz [] _) rfl ⟨rfl, hlv, ?_⟩; (conv => whnf))
      repeat (first | (refine oR ?_; (conv => whnf)) | refine kOps ?_ | refine oNil ?_ | refine qSeqN ?_ | refine sBlk ?_)
      have hdone := hS.done hok
      have h24 := liveL_len hR
      have hget := mapGet_mE seen
      have hfl : ∀ (x : Int) (i : Nat), (liveL cs)[i]? = some x → ((liveL cs).take (i + 1)).filter (fun h => decide (Rch cs l h)) = if x ∈ seen then ((liveL cs).take i).filter (fun h => decide (Rch cs l h)) ++ [x] else ((liveL cs).take i).filter (fun h => decide (Rch cs l h)) := fun x i hx => by
        rw [filter_snoc hx]
        by_cases hm : x ∈ seen
        · rw [if_pos hm, if_pos (decide_eq_true ((hdone x).1 hm))]
        · rw [if_neg hm, if_neg (by simpa using fun h => hm ((hdone x).2 h))]
      have hfr : ∀ (x : Int) (i : Nat), (liveL cs)[i]? = some x → ((liveL cs).take (i + 1)).filter (fun h => !decide (Rch cs l h)) = if x ∈ seen then ((liveL cs).take i).filter (fun h => !decide (Rch cs l h)) else ((liveL cs).take i).filter (fun h => !decide (Rch cs l h)) ++ [x] := fun x i hx => by
        rw [filter_snoc hx]
        by_cases hm : x ∈ seen
        · rw [if_pos hm, if_neg (by simpa using (hdone x).1 hm)]
        · rw [if_neg hm, if_pos (by simpa using fun h => hm ((hdone x).2 h))]
      unfold fromL restL
      have hlen2 : ((liveL cs).map fun n => [eI n]).length = (liveL cs).length := List.length_map _
      have hlb : (liveL cs).length ≤ 1099511627776 := by omega
      have ha := fun i => filter_len (fun h => decide (Rch cs l h)) (liveL cs) i
      have hb := fun i => filter_len (fun h => !decide (Rch cs l h)) (liveL cs) i
      generalize liveL cs = all at h24 hfl hfr hlen2 hlb ha hb ⊢
      refine sLoop (α := Nat) (fun i => i ≤ all.length) (fun i => ⟨tl [(4, .rowf 4), (5, .rowf 5), (6, .ptr 2 0 0), (54, encI all), (55, eI all.length), (56, eI (i : Int))], Ll [(1, .map .i64 (mE seen)), (2, .box 100 [.mp 1]), (4, .rows 3 1 (rI ((all.take i).filter fun h => decide (Rch cs l h)))), (5, .rows 3 1 (rI ((all.take i).filter fun h => !decide (Rch cs l h))))], 74, 6, [], none⟩) (fun i => all.length - i) 0
        (.trans (.adopt 4 4 3 1 rfl rfl (by decide)) (.trans (.adopt 5 5 3 1 rfl rfl (by decide)) (.keep _ _ _ _ ⟨rfl, rfl, rfl, rfl, trivial⟩ ⟨rfl, rfl, rfl, rfl, congrArg (fun n : Nat => eI n) hlen2, rfl, trivial⟩ rfl rfl))) (Nat.zero_le _) fun i hi => ?_
      repeat (first | (refine oR ?_; (conv => whnf)) | refine kOps ?_ | refine oNil ?_ | refine sSeq ?_ | refine sR ?_ | refine qSeqN ?_)
      refine sC rfl (fun g1 => ?_) (fun g1 => ?_)
      rotate_left
      · have hge : all.length ≤ i := by have := dF g1; omega
        rw [List.take_of_length_le hge]
        repeat (first | (refine oR ?_; (conv => whnf)) | refine kOps ?_ | refine oNil ?_ | refine sSeq ?_ | refine sR ?_ | refine qSeqN ?_ | refine sRet ?_ | refine sExit ?_ | refine qSeqE ?_ | refine qX ?_ | refine qLoopE ?_)
        refine qEnd ?_
        conv => whnf
        rfl
      have hlt : i < all.length := by have := dT g1; omega
      obtain ⟨x, hx⟩ : ∃ x, all[i]? = some x := ⟨_, List.getElem?_eq_getElem hlt⟩
      have hax := hfl x i hx
      have hbx := hfr x i hx
      have hai := ha i
      have hbi := hb i
      have hgx := hget x
      repeat (first | (refine oR ?_; (conv => whnf)) | refine sSeq ?_ | refine sR ?_ | refine qSeqN ?_ | refine sSkip ?_ | refine sBlk ?_)
      refine ⟨i, _, rfl, encI_get hx, ?_⟩
      conv => whnf
      repeat (first | (refine oR ?_; (conv => whnf)) | refine kOps ?_ | refine oNil ?_ | refine sSeq ?_ | refine sR ?_ | refine qSeqN ?_)
      by_cases hm : x ∈ seen
      · rw [if_pos hm] at hax hbx hgx
        refine ⟨_, hgx, ?_⟩
        conv => whnf
        repeat (first | (refine oR ?_; (conv => whnf)) | refine kOps ?_ | refine oNil ?_ | refine sR ?_ | refine qSeqN ?_ | refine sT ?_)
        refine ⟨by simp [oneC], roomI (by simp only [rI, List.length_map]; simp; omega), ?_⟩
        repeat (first | (refine oR ?_; (conv => whnf)) | refine kOps ?_ | refine oNil ?_ | refine sR ?_ | refine qSeqN ?_ | refine qBlkN ?_)
        exact qLoopN (i + 1) (.keep _ _ _ _ ⟨rfl, rfl, congrArg (Blk.rows 3 1) (by rw [hax]; simp [rI]), congrArg (Blk.rows 3 1) (by rw [hbx]), trivial⟩ ⟨rfl, rfl, rfl, rfl, rfl, congrArg eI (wrapS hlt hlb), trivial⟩ rfl rfl) hlt (by omega)
      · rw [if_neg hm] at hax hbx hgx
        refine ⟨_, hgx, ?_⟩
        conv => whnf
        repeat (first | (refine oR ?_; (conv => whnf)) | refine kOps ?_ | refine oNil ?_ | refine sR ?_ | refine qSeqN ?_ | refine sF ?_)
        refine ⟨by simp [oneC], roomI (by simp only [rI, List.length_map]; simp; omega), ?_⟩
        repeat (first | (refine oR ?_; (conv => whnf)) | refine kOps ?_ | refine oNil ?_ | refine sR ?_ | refine qSeqN ?_ | refine qBlkN ?_)
        exact qLoopN (i + 1) (.keep _ _ _ _ ⟨rfl, rfl, congrArg (Blk.rows 3 1) (by rw [hax]), congrArg (Blk.rows 3 1) (by rw [hbx]; simp [rI]), trivial⟩ ⟨rfl, rfl, rfl, rfl, rfl, congrArg eI (wrapS hlt hlb), trivial⟩ rfl rfl) hlt (by omega)
    | cons h q =>
      refine sC rfl (fun g1 => ?_) (fun g1 => ?_)
      rotate_left
      · exfalso
        have := dF g1
        simp at this
      have hol := outL_len hR h
      have hob : (outL cs h).length ≤ 1099511627776 := by omega
      have holn : ((outL cs h).map fun n => [eI n]).length = (outL cs h).length := List.length_map _
      repeat (first | (refine oR ?_; (conv => whnf)) | refine kOps ?_ | refine sSeq ?_ | refine sR ?_ | refine qSeqN ?_ | refine sSkip ?_ | refine sBlk ?_)
      (refine oCall rfl (.inl rfl) rfl rfl rfl (.fz [] _) rfl ⟨rfl, c_pop h q 24, ?_⟩; (conv => whnf))
      repeat (first | (refine oR ?_; (conv => whnf)) | refine kOps ?_ | refine oNil ?_ | refine sSeq ?_ | refine sR ?_ | refine qSeqN ?_)
      (refine oCall rfl (.inl rfl) rfl rfl rfl (.fz [] _) rfl ⟨rfl, c_out cs la sr h hR, ?_⟩; (conv => whnf))
      repeat (first | (refine oR ?_; (conv => whnf)) | refine kOps ?_ | refine oNil ?_ | refine qSeqN ?_ | refine sBlk ?_)
      refine sLoop (α := Nat × List Int × List Int) (fun a => a.1 ≤ (outL cs h).length ∧ Seen2 cs l h a.1 a.2.1 a.2.2 ∧ 2 * (24 - a.2.2.length) + a.2.1.length < 2 * (24 - seen.length) + (q.length + 1) ∧ ∀ x ∈ l, lv cs x = true → x ∈ a.2.2) (fun a => ⟨tl [(2, .vptr [encC cs, eI la, eI sr]), (4, .nilsl), (5, .nilsl), (6, .ptr 2 0 0), (7, .ptr 3 0 0), (8, .fn 49 [.vptr [encC cs, eI la, eI sr], .ptr 2 0 0, .ptr 3 0 0]), (43, encI (outL cs h)), (44, eI (outL cs h).length), (45, eI (a.1 : Int))], Ll [(1, .map .i64 (mE a.2.2)), (2, .box 100 [.mp 1]), (3, .box 102 [encI a.2.1, eI 24])], 74, 4, [], none⟩) (fun a => (outL cs h).length - a.1) (0, q, seen)
        (.keep _ _ _ _ ⟨rfl, rfl, rfl, trivial⟩ ⟨rfl, rfl, rfl, rfl, rfl, rfl, rfl, congrArg (fun n : Nat => eI n) holn, rfl, trivial⟩ rfl rfl) ⟨Nat.zero_le _, hS.two, by simp, hok⟩ fun b hb => ?_
      clear hS hok
      obtain ⟨k, q2, seen2⟩ := b
      obtain ⟨hk, hS, hlt, hok⟩ := hb
      simp only at hk hS hlt hok
      repeat (first | (refine oR ?_; (conv => whnf)) | refine kOps ?_ | refine oNil ?_ | refine sSeq ?_ | refine sR ?_ | refine qSeqN ?_)
      refine sC rfl (fun g2 => ?_) (fun g2 => ?_)
      · have hkl : k < (outL cs h).length := by have := dT g2; omega
        obtain ⟨x, hx⟩ : ∃ x, (outL cs h)[k]? = some x := ⟨_, List.getElem?_eq_getElem hkl⟩
        repeat (first | (refine oR ?_; (conv => whnf)) | refine sSeq ?_ | refine sR ?_ | refine qSeqN ?_ | refine sSkip ?_ | refine sBlk ?_)
        refine ⟨k, _, rfl, encI_get hx, ?_⟩
        conv => whnf
        repeat (first | (refine oR ?_; (conv => whnf)) | refine kOps ?_ | refine oNil ?_ | refine sR ?_ | refine qSeqN ?_)
        by_cases hs : lv cs x = true ∧ x ∉ seen2
        · have h24 := hS.lt hR hs.1 hs.2
          have hq : q2.length < 24 := by
            obtain ⟨old, ho, _⟩ := hS.qs
            rw [ho, List.length_append, List.length_cons] at h24
            omega
          refine oCall rfl (.inl rfl) rfl rfl rfl (.ef [2, 3, 1] (.tup []) (seeL (q2 ++ [x]) (seen2 ++ [x]))) rfl ⟨⟨rfl, rfl, rfl, rfl⟩, c_see_yes cs la sr x q2 seen2 hR hs.1 hs.2 hq, ?_⟩
          conv => whnf
          repeat (first | (refine oR ?_; (conv => whnf)) | refine kOps ?_ | refine oNil ?_ | refine sR ?_ | refine qSeqN ?_ | refine qBlkN ?_)
          refine qLoopN (k + 1, q2 ++ [x], seen2 ++ [x]) .kp ⟨hkl, hS.add hx hs.1 hs.2, ?_, fun y hy hv => List.mem_append.2 (.inl (hok y hy hv))⟩ (by show (outL cs h).length - (k + 1) < (outL cs h).length - k; omega)
          simp only [List.length_append, List.length_cons, List.length_nil]
          omega
        · have hs' : lv cs x = false ∨ x ∈ seen2 := by
            cases hv : lv cs x with
            | false => exact .inl rfl
            | true => exact .inr (Classical.byContradiction fun hn => hs ⟨hv, hn⟩)
          refine oCall rfl (.inl rfl) rfl rfl rfl (.ef [2, 3, 1] (.tup []) (seeL q2 seen2)) rfl ⟨⟨rfl, rfl, rfl, rfl⟩, c_see_no cs la sr x q2 seen2 hR hs', ?_⟩
          conv => whnf
          repeat (first | (refine oR ?_; (conv => whnf)) | refine kOps ?_ | refine oNil ?_ | refine sR ?_ | refine qSeqN ?_ | refine qBlkN ?_)
          exact qLoopN (k + 1, q2, seen2) .kp ⟨hkl, hS.skip hx hs', hlt, hok⟩ (by show (outL cs h).length - (k + 1) < (outL cs h).length - k; omega)
      · have hge : (outL cs h).length ≤ k := by have := dF g2; omega
        repeat (first | refine sExit ?_ | refine qSeqE ?_ | refine qBlkN ?_ | refine qX ?_ | refine qLoopE ?_)
        exact qLoopN (q2, seen2) .kp ⟨hS.one hge, hok⟩ (by show 2 * (24 - seen2.length) + q2.length < 2 * (24 - seen.length) + (q.length + 1); exact hlt)
end Go.Proofs.Ytcmciimogcfakaa

/- reach.From, Closed; fix.news. -/
set_option linter.unusedVariables false
set_option linter.unusedSimpArgs false
namespace Go.Proofs.Ytcmciimogcfakaa
open Go Go.RowKit
open Classical

theorem c_from8 (cs : List Ce) (la sr : Int) (l : List Int) (hR : Rs cs) (hl : l.length ≤ 1099511627776) (hlv : C Try.prog 45 [tS cs la sr] (encI (liveL cs))) : C Try.prog 8 [tS cs la sr, encI l] (encI (fromL cs l)) := by
  refine fnOk mixed tyOk Try.func8 (code := Try.f8.body.getD .skip) rfl rfl rfl (gC_in ?_)
  repeat (first | (refine oR ?_; (conv => whnf)) | refine kOps ?_ | refine oNil ?_ | refine sSeq ?_ | refine sR ?_ | refine qSeqN ?_)
  (refine oCall rfl (.inl rfl) rfl rfl rfl (.fz [] _) rfl ⟨rfl, c_split cs la sr l hR hl hlv, ?_⟩; (conv => whnf))
  repeat (first | (refine oR ?_; (conv => whnf)) | refine kOps ?_ | refine oNil ?_ | refine sSeq ?_ | refine sR ?_ | refine qSeqN ?_ | refine sRet ?_)
  refine qEnd ?_
  conv => whnf
  rfl
theorem fromL_len {cs : List Ce} (hR : Rs cs) (l : List Int) : (fromL cs l).length ≤ 24 := Nat.le_trans (List.length_filter_le _ _) (liveL_len hR)
theorem c_closed8 (cs : List Ce) (la sr : Int) (l : List Int) (hR : Rs cs) (hl : l.length ≤ 1099511627776) (hlv : C Try.prog 45 [tS cs la sr] (encI (liveL cs))) : C Try.prog 31 [tS cs la sr, encI l] (.bool (!decide (∃ x ∈ fromL cs l, x ∉ l))) := by
  refine fnOk mixed tyOk Try.func31 (code := Try.f31.body.getD .skip) rfl rfl rfl (gC_in ?_)
  have h24 := fromL_len hR l
  repeat (first | (refine oR ?_; (conv => whnf)) | refine kOps ?_ | refine oNil ?_ | refine sSeq ?_ | refine sR ?_ | refine qSeqN ?_)
  (refine oCall rfl (.inl rfl) rfl rfl rfl (.fz [] _) rfl ⟨rfl, c_from8 cs la sr l hR hl hlv, ?_⟩; (conv => whnf))
  repeat (first | (refine oR ?_; (conv => whnf)) | refine kOps ?_)
  (refine oCall rfl (.inl rfl) rfl rfl rfl (.fz [1] _) rfl ⟨rfl, c_containsf (fromL cs l) l hl (by omega), ?_⟩; (conv => whnf))
  repeat (first | (refine oR ?_; (conv => whnf)) | refine kOps ?_ | refine oNil ?_ | refine qSeqN ?_ | refine sRet ?_)
  refine qEnd ?_
  conv => whnf
  rfl
noncomputable def newP (cs : List Ce) (l : List Int) (q : Pr) : Bool := decide (q.1 ∈ l) && lv cs q.1 && lv cs q.2 && !decide (q.2 ∈ l)
noncomputable def newsL (cs : List Ce) (T : List Pl) (l : List Int) : List Int := ((pairsL T).filter (newP cs l)).map (·.2)
theorem c_news (cs : List Ce) (la sr : Int) (T : List Pl) (l : List Int) (hR : Rs cs) (hT : T.length ≤ 1099511627776) (hl : l.length ≤ 1099511627776) : CR Try.prog 30 [tS cs la sr, encT T, encI l] 3 1 (rI (newsL cs T l)) := by
  refine fnOkR mixed tyOk Try.func30 (code := Try.f30.body.getD .skip) rfl rfl rfl (gC_in ?_)
  have hpl := Nat.le_trans (pairsL_le T) hT
  have hn1 := fun h => c_news1 cs la sr h hR
  repeat (first | (refine oR ?_; (conv => whnf)) | refine kOps ?_ | refine oNil ?_ | refine sSeq ?_ | refine sR ?_ | refine qSeqN ?_)
  (refine oCall rfl (.inl rfl) rfl rfl rfl (.fz [] _) rfl ⟨rfl, c_prs T hT, ?_⟩; (conv => whnf))
  repeat (first | (refine oR ?_; (conv => whnf)) | refine kOps ?_ | refine oNil ?_ | refine qSeqN ?_ | refine sBlk ?_)
  unfold newsL
  generalize pairsL T = P at hpl ⊢
  have hlen : (P.map encP).length = P.length := List.length_map _
  refine sLoop (α := Nat) (fun i => i ≤ P.length) (fun i => ⟨tl [(2, encI l), (6, .rowf 1), (7, .fn 56 [.vptr [encC cs, eI la, eI sr]]), (12, encQ P), (13, eI P.length), (14, eI (i : Int))], Ll [(1, .rows 3 1 (rI (((P.take i).filter (newP cs l)).map (·.2))))], 48, 2, [], none⟩) (fun i => P.length - i) 0
    (.trans (.fz _ [0]) (.trans (.adopt 6 1 3 1 rfl rfl (by decide)) (.keep _ _ _ _ ⟨rfl, trivial⟩ ⟨rfl, rfl, rfl, rfl, congrArg (fun n : Nat => eI n) hlen, rfl, trivial⟩ rfl rfl))) (Nat.zero_le _) fun i hi => ?_
  repeat (first | (refine oR ?_; (conv => whnf)) | refine kOps ?_ | refine oNil ?_ | refine sSeq ?_ | refine sR ?_ | refine qSeqN ?_)
  refine sC rfl (fun h1 => ?_) (fun h1 => ?_)
  rotate_left
  · have hge : P.length ≤ i := by have := dF h1; omega
    rw [List.take_of_length_le hge]
    repeat (first | (refine oR ?_; (conv => whnf)) | refine kOps ?_ | refine oNil ?_ | refine sSeq ?_ | refine sR ?_ | refine qSeqN ?_ | refine sRet ?_ | refine sExit ?_ | refine qSeqE ?_ | refine qX ?_ | refine qLoopE ?_)
    refine qEndR ⟨_, .refl _, ?_⟩
    conv => whnf
    exact ⟨_, rfl, rfl⟩
  have hlt : i < P.length := by have := dT h1; omega
  obtain ⟨q, hq⟩ : ∃ q, P[i]? = some q := ⟨_, List.getElem?_eq_getElem hlt⟩
  have hk := filter_snoc (p := newP cs l) hq
  have hle := filter_len (newP cs l) P i
  repeat (first | (refine oR ?_; (conv => whnf)) | refine sSeq ?_ | refine sR ?_ | refine qSeqN ?_ | refine sSkip ?_ | refine sBlk ?_)
  refine ⟨i, _, rfl, encP_get hq, ?_⟩
  conv => whnf
  repeat (first | (refine oR ?_; (conv => whnf)) | refine kOps ?_ | refine oNil ?_ | refine sSeq ?_ | refine sR ?_ | refine qSeqN ?_)
  (refine oCall rfl (.inl rfl) rfl rfl rfl (.fz [] _) rfl ⟨rfl, c_contains6 l q.1 hl, ?_⟩; (conv => whnf))
  repeat (first | (refine oR ?_; (conv => whnf)) | refine kOps ?_)
  refine oS rfl rfl rfl (fun h2 => ?_) (fun h2 => ?_)
  · repeat (first | refine kOps ?_ | (refine oG ?_; (conv => whnf)))
    (refine oCall rfl (.inr ⟨_, _, _, rfl, rfl, rfl⟩) rfl rfl rfl (.fz [] _) rfl ⟨rfl, hn1 q.1, ?_⟩; (conv => whnf))
    repeat (first | (refine oR ?_; (conv => whnf)) | refine kOps ?_ | (refine sBT ?_; (conv => whnf)))
    refine oS rfl rfl rfl (fun h3 => ?_) (fun h3 => ?_)
    · repeat (first | refine kOps ?_ | (refine oG ?_; (conv => whnf)))
      (refine oCall rfl (.inr ⟨_, _, _, rfl, rfl, rfl⟩) rfl rfl rfl (.fz [] _) rfl ⟨rfl, hn1 q.2, ?_⟩; (conv => whnf))
      repeat (first | (refine oR ?_; (conv => whnf)) | refine kOps ?_ | (refine sBT ?_; (conv => whnf)))
      refine oS rfl rfl rfl (fun h4 => ?_) (fun h4 => ?_)
      · repeat (first | refine kOps ?_ | (refine oG ?_; (conv => whnf)))
        (refine oCall rfl (.inr ⟨_, _, _, rfl, rfl, rfl⟩) rfl rfl rfl (.fz [] _) rfl ⟨rfl, c_contains6 l q.2 hl, ?_⟩; (conv => whnf))
        repeat (first | (refine oR ?_; (conv => whnf)) | refine kOps ?_ | (refine oG ?_; (conv => whnf)) | refine oNil ?_ | refine qSeqN ?_ | (refine sBT ?_; (conv => whnf)))
        refine sC rfl (fun h5 => ?_) (fun h5 => ?_)
        · rw [if_pos (by rw [newP, h2, h3, h4]; simpa using h5)] at hk
          repeat (first | (refine oR ?_; (conv => whnf)) | refine kOps ?_ | refine sR ?_)
          refine ⟨by simp [oneC], roomI (by simp [rI]; omega), ?_⟩
          repeat (first | (refine oR ?_; (conv => whnf)) | refine kOps ?_ | refine oNil ?_ | refine sR ?_ | refine qSeqN ?_ | refine qBlkN ?_)
          exact qLoopN (i + 1) (.keep _ _ _ _ ⟨congrArg (Blk.rows 3 1) (by rw [hk]; simp [rI]), trivial⟩ ⟨rfl, rfl, rfl, rfl, rfl, congrArg eI (wrapS hlt hpl), trivial⟩ rfl rfl) hlt (by omega)
        · rw [if_neg (by rw [newP, h2, h3, h4]; simpa using h5)] at hk
          repeat (first | (refine oR ?_; (conv => whnf)) | refine kOps ?_ | refine oNil ?_ | refine sR ?_ | refine qSeqN ?_ | refine sSkip ?_ | refine qBlkN ?_)
          exact qLoopN (i + 1) (.keep _ _ _ _ ⟨congrArg (Blk.rows 3 1) (by rw [hk]), trivial⟩ ⟨rfl, rfl, rfl, rfl, rfl, congrArg eI (wrapS hlt hpl), trivial⟩ rfl rfl) hlt (by omega)
      · rw [if_neg (by simp [newP, h4])] at hk
        repeat (first | (refine oR ?_; (conv => whnf)) | refine kOps ?_ | refine oH ?_ | refine oNil ?_ | refine sR ?_ | refine qSeqN ?_ | refine sSkip ?_ | refine sF ?_ | refine qBlkN ?_ | (refine sBF ?_; (conv => whnf)))
        exact qLoopN (i + 1) (.keep _ _ _ _ ⟨congrArg (Blk.rows 3 1) (by rw [hk]), trivial⟩ ⟨rfl, rfl, rfl, rfl, rfl, congrArg eI (wrapS hlt hpl), trivial⟩ rfl rfl) hlt (by omega)
    · rw [if_neg (by simp [newP, h3])] at hk
      repeat (first | (refine oR ?_; (conv => whnf)) | refine kOps ?_ | refine oH ?_ | refine oNil ?_ | refine sR ?_ | refine qSeqN ?_ | refine sSkip ?_ | refine sF ?_ | refine qBlkN ?_ | (refine sBF ?_; (conv => whnf)))
      exact qLoopN (i + 1) (.keep _ _ _ _ ⟨congrArg (Blk.rows 3 1) (by rw [hk]), trivial⟩ ⟨rfl, rfl, rfl, rfl, rfl, congrArg eI (wrapS hlt hpl), trivial⟩ rfl rfl) hlt (by omega)
  · rw [if_neg (by rw [newP, h2]; simp)] at hk
    repeat (first | (refine oR ?_; (conv => whnf)) | refine kOps ?_ | refine oH ?_ | refine oNil ?_ | refine sR ?_ | refine qSeqN ?_ | refine sSkip ?_ | refine sF ?_ | refine qBlkN ?_ | (refine sBF ?_; (conv => whnf)))
    exact qLoopN (i + 1) (.keep _ _ _ _ ⟨congrArg (Blk.rows 3 1) (by rw [hk]), trivial⟩ ⟨rfl, rfl, rfl, rfl, rfl, congrArg eI (wrapS hlt hpl), trivial⟩ rfl rfl) hlt (by omega)
end Go.Proofs.Ytcmciimogcfakaa

/- fix.rounds. -/
set_option linter.unusedVariables false
set_option linter.unusedSimpArgs false
namespace Go.Proofs.Ytcmciimogcfakaa
open Go Go.RowKit
open Classical

noncomputable def nthP (cs : List Ce) (T : List Pl) (l : List Int) : Nat → List Int
  | 0 => fromL cs l
  | n + 1 => fromL cs (newsL cs T (nthP cs T l n) ++ nthP cs T l n)
theorem nthP_len {cs : List Ce} (hR : Rs cs) (T : List Pl) (l : List Int) : ∀ n, (nthP cs T l n).length ≤ 24
  | 0 => fromL_len hR l
  | n + 1 => fromL_len hR _
theorem newsL_len (cs : List Ce) (T : List Pl) (l : List Int) : (newsL cs T l).length ≤ T.length := by
  rw [newsL, List.length_map]
  exact Nat.le_trans (List.length_filter_le _ _) (pairsL_le T)
/-- The program's rounds end at N. -/
structure PN (cs : List Ce) (T : List Pl) (l : List Int) (N : Nat) : Prop where
  lt : N < 30
  ne : ∀ n, n < N → newsL cs T (nthP cs T l n) ≠ []
  eq : newsL cs T (nthP cs T l N) = []
set_option maxRecDepth 100000 in
theorem c_prounds (cs : List Ce) (la sr : Int) (T : List Pl) (l : List Int) (hR : Rs cs) (h8 : T.length ≤ 8) (hl : l.length ≤ 1099511627776) (hlv : C Try.prog 45 [tS cs la sr] (encI (liveL cs))) {N : Nat} (hN : PN cs T l N) : C Try.prog 29 [tS cs la sr, encT T, encI l] (.tup [encI (nthP cs T l N), eI (N : Int)]) := by
  refine fnOk mixed tyOk Try.func29 (code := Try.f29.body.getD .skip) rfl rfl rfl (gC_in ?_)
  repeat (first | (refine oR ?_; (conv => whnf)) | refine kOps ?_ | refine oNil ?_ | refine sSeq ?_ | refine sR ?_ | refine qSeqN ?_ | refine sScope ?_)
  (refine oCall rfl (.inl rfl) rfl rfl rfl (.fz [] _) rfl ⟨rfl, c_from8 cs la sr l hR hl hlv, ?_⟩; (conv => whnf))
  repeat (first | (refine oR ?_; (conv => whnf)) | refine kOps ?_ | refine oNil ?_ | refine sSeq ?_ | refine qSeqN ?_ | refine sBlk ?_ | refine sLabel ?_)
  refine sLoop (α := Nat) (fun n => n ≤ N) (fun n => ⟨tl [(1, encT T), (3, .ptr 0 0 0), (6, encI (nthP cs T l n)), (7, eI (n : Int))], Ll [(0, .box 26 [encC cs, eI la, eI sr])], 28, 1, [], none⟩) (fun n => N - n) 0 .kp (Nat.zero_le _) fun n hn => ?_
  have h24 := nthP_len hR T l n
  have hnl := newsL_len cs T (nthP cs T l n)
  have hnx : nthP cs T l (n + 1) = fromL cs (newsL cs T (nthP cs T l n) ++ nthP cs T l n) := rfl
  have hne := hN.ne n
  have heq := hN.eq
  have h30 := hN.lt
  have hcn := c_news cs la sr T (nthP cs T l n) hR (by omega) (by omega)
  have hf := c_from8 cs la sr (newsL cs T (nthP cs T l n) ++ nthP cs T l n) hR (by rw [List.length_append]; omega) hlv
  rw [← hnx, encI, List.map_append] at hf
  generalize hse2 : nthP cs T l (n + 1) = nxt at *
  generalize hnw : newsL cs T (nthP cs T l n) = nw at *
  generalize hse : nthP cs T l n = out at *
  repeat (first | (refine oR ?_; (conv => whnf)) | refine kOps ?_ | refine sSeq ?_ | refine sR ?_ | refine sBlk ?_)
  refine oCall rfl (.inl rfl) rfl rfl rfl (.nw [] 3 1 (rI nw)) rfl ⟨⟨rfl, rfl⟩, hcn, ?_⟩
  conv => whnf
  repeat (first | (refine oR ?_; (conv => whnf)) | refine kOps ?_ | refine oNil ?_ | refine sSeq ?_ | refine sR ?_ | refine qSeqN ?_)
  refine sC rfl (fun h1 => ?_) (fun h1 => ?_)
  · have h1 : nw = [] := by
      have := dT h1 <;> simp [rI] at h1
      exact h1
    have e : n = N := by
      rcases Nat.lt_or_ge n N with h | h
      · exact absurd h1 (hne h)
      · omega
    subst e
    repeat (first | (refine oR ?_; (conv => whnf)) | refine kOps ?_ | refine oNil ?_ | refine sSeq ?_ | refine sR ?_ | refine qSeqN ?_ | refine sRet ?_ | refine sExit ?_ | refine qSeqE ?_ | refine qScR ?_ | refine qX ?_ | refine qY ?_ | refine qLoopE ?_)
    refine qEnd ?_
    conv => whnf
    rw [hse]
    rfl
  · have h1 : ¬ nw = [] := fun he => by simp [he, rI] at h1
    have hlt : n < N := by
      rcases Nat.lt_or_ge n N with h | h
      · exact h
      · have e : n = N := by omega
        subst e
        exact absurd (hnw.symm.trans (by rw [← hse]; exact heq)) h1
    have hNb : N ≤ 1099511627776 := by omega
    repeat (first | refine sSeq ?_ | refine qSeqN ?_ | refine sSkip ?_)
    refine sDt [3, 4, 5] ?_
    repeat (first | refine g3skip ?_ | (apply g3run; exact rfl; exact rfl; exact .inl rfl; (conv => whnf); exact .mk rfl) | refine g3nil ?_ | refine kT ?_ | (apply gTrun; exact rfl; exact rfl; exact rfl; (conv => whnf)))
    refine ⟨ones1 out, roomI (by simp [rI]; omega), ?_⟩
    conv => whnf
    repeat (first | (apply gRcons; exact rfl; exact rfl; exact rfl; (conv => whnf); exact .mk rfl) | exact gRnil | exact KEq.mk rfl | (apply gTrun; exact rfl; exact rfl; exact rfl; (conv => whnf)))
    (refine ⟨.fz [1] _, rfl, hf, ?_⟩; (conv => whnf); exact .mk rfl)
    repeat (first | (refine oR ?_; (conv => whnf)) | refine kOps ?_ | refine oNil ?_ | refine sR ?_ | refine qSeqN ?_ | refine qBlkN ?_ | (apply gTrun; exact rfl; exact rfl; exact rfl; (conv => whnf); exact .mk rfl) | exact gRnil | refine gTnil ?_)
    refine qLoopN (n + 1) ?_ (show n + 1 ≤ N by omega) (by omega)
    simp only [hse2]
    exact .kp
end Go.Proofs.Ytcmciimogcfakaa
