/- The law HashMaps. -/
import Derived.Test.YtcfbhojpemjjpaaLc
set_option linter.unusedVariables false
set_option linter.unusedSimpArgs false
namespace Go.Proofs.Ytcfbhojpemjjpaa
open Go Go.RowKit

/-- The table tells what the map tells. -/
structure Tm (T : List Pl) (M : List (Int × Int)) : Prop where
  rt : Rt T
  len : T.length = 8
  eq : ∀ y, look T y = mLook M y
  cnt : cnt T = M.length
  nd : (mKeys M).Nodup
set_option maxRecDepth 100000 in
theorem HashMaps (l : List Int) : C Try.prog 6 [encI l] (.bool true) := by
  refine fnOk mixed tyOk Try.func6 (code := Try.f6.body.getD .skip) rfl rfl rfl (gC_in ?_)
  repeat (first | (refine oR ?_; (conv => whnf)) | refine kOps ?_ | refine oNil ?_ | refine sSeq ?_ | refine sR ?_ | refine qSeqN ?_)
  refine oS rfl rfl rfl (fun hl => ?_) (fun hl => ?_)
  · repeat (first | (refine oR ?_; (conv => whnf)) | refine kOps ?_ | refine oH ?_ | refine oNil ?_ | refine sSeq ?_ | refine sR ?_ | refine qSeqN ?_ | refine sT ?_ | (refine sBT ?_; (conv => whnf)))
    (refine oCall rfl (.inl rfl) rfl rfl rfl (.fz [] _) rfl ⟨rfl, c_shown10, ?_⟩; (conv => whnf))
    repeat (first | (refine oR ?_; (conv => whnf)) | refine kOps ?_ | refine oNil ?_ | refine qSeqN ?_ | refine sRet ?_ | refine qSeqR ?_)
    refine qEnd ?_
    conv => whnf
    rfl
  · have hl : l.length ≤ 60 := by have := dF hl; simp at this; omega
    skip
    (refine oCall rfl (.inr ⟨_, _, _, rfl, rfl, rfl⟩) rfl rfl rfl (.fz [] _) rfl ⟨rfl, c_shown10, ?_⟩; (conv => whnf))
    repeat (first | (refine oR ?_; (conv => whnf)) | refine kOps ?_ | (refine oG ?_; (conv => whnf)) | refine oNil ?_ | refine sSeq ?_ | refine sR ?_ | refine qSeqN ?_ | refine sSkip ?_ | refine sF ?_ | (refine sBF ?_; (conv => whnf)))
    (refine oCall rfl (.inl rfl) rfl rfl rfl (.fz [] _) rfl ⟨rfl, x_new (n := 8) (List.replicate 8 pl0) (by decide +kernel), ?_⟩; (conv => whnf))
    repeat (first | (refine oR ?_; (conv => whnf)) | refine kOps ?_ | refine oNil ?_ | refine sSeq ?_ | refine sR ?_ | refine qSeqN ?_ | refine sBlk ?_)
    refine sLoop (fun q : Nat × List Pl × List (Int × Int) => q.1 ≤ 62 ∧ Tm q.2.1 q.2.2)
      (fun q => ⟨tl [(0, encI l), (3, encT q.2.1), (4, .mp 0), (5, eI (q.1 : Int))], Ll [(0, .map .i64 (eM q.2.2))], 147, 1, [], none⟩) (fun q => 62 - q.1) (0, List.replicate 8 pl0, [])
      .kp ⟨by simp, ⟨Rt.new (by decide) (by decide), by simp, fun y => by rw [new_look]; rfl, by rw [new_cnt]; rfl, by simp⟩⟩ fun q hq => ?_
    obtain ⟨i, T, M⟩ := q
    obtain ⟨hi, h⟩ := hq
    simp only at hi h
    have e1 := wN (i := i) 1 (by omega)
    have e2 := wN (i := i) 2 (by omega)
    have hcl := cnt_le T
    have hlenM := eM_len M
    have hT8 := h.len
    have hcM := h.cnt
    repeat (first | (refine oR ?_; (conv => whnf)) | refine kOps ?_ | refine oNil ?_ | refine sSeq ?_ | refine sR ?_ | refine qSeqN ?_)
    refine sC rfl (fun hlt => ?_) (fun hlt => ?_)
    · have hlt : i + 1 < l.length := by
        have := dT hlt
        rw [show IntKind.i64.wrap ((i : Int) + 1) = _ from e1] at this
        simp at this
        omega
      obtain ⟨n, hn⟩ := get_lt (l := l) (i := i) (by omega)
      obtain ⟨k, hk⟩ := get_lt hlt
      have hgk := eM_get M k
      have heq := h.eq k
      have rest : ∀ q : List Pl × List (Int × Int), Tm q.1 q.2 → True := fun _ _ => trivial
      repeat (first | (refine oR ?_; (conv => whnf)) | refine kOps ?_ | refine sSeq ?_ | refine sR ?_ | refine qSeqN ?_ | refine sSkip ?_ | refine sBlk ?_)
      refine ⟨i + 1, _, e1, encI_get hk, ?_⟩
      conv => whnf
      repeat (first | (refine oR ?_; (conv => whnf)) | refine kOps ?_ | refine oNil ?_ | refine sSeq ?_ | refine sR ?_ | refine qSeqN ?_)
      cases hlk : mLook M k
      all_goals
        rw [hlk] at hgk heq
        refine ⟨_, hgk, ?_⟩
        conv => whnf
        repeat (first | (refine oR ?_; (conv => whnf)) | refine kOps ?_ | refine oNil ?_ | refine sSeq ?_ | refine sR ?_ | refine qSeqN ?_)
        refine ⟨i, _, rfl, encI_get hn, ?_⟩
        conv => whnf
        repeat (first | (refine oR ?_; (conv => whnf)) | refine kOps ?_)
        refine ⟨by decide, ?_⟩
        repeat (first | (refine oR ?_; (conv => whnf)) | refine kOps ?_ | refine oNil ?_ | refine qSeqN ?_)
        refine sJoin (fun q : List Pl × List (Int × Int) => Tm q.1 q.2) (fun q => ⟨tl [(0, encI l), (3, encT q.1), (4, .mp 0), (5, eI (i : Int))], Ll [(0, .map .i64 (eM q.2))], 147, 1, [], none⟩) (fun q hq => ?_) (fun hj => ?_)
        · obtain ⟨A, N⟩ := q
          simp only at hq
          have hlenN := eM_len N
          have hlenA := hq.cnt
          repeat (first | (refine oR ?_; (conv => whnf)) | refine kOps ?_ | refine oNil ?_ | refine sSeq ?_ | refine sR ?_ | refine qSeqN ?_ | refine sBlk ?_)
          refine sLoop (fun j : Nat => j ≤ i + 3 ∧ 1 ≤ j) (fun j => ⟨tl [(0, encI l), (3, encT A), (4, .mp 0), (5, eI (i : Int)), (14, eI (j : Int))], Ll [(0, .map .i64 (eM N))], 147, 1, [], none⟩) (fun j => i + 3 - j) 1 .kp (by omega) fun j hjj => ?_
          have e3 := wN (i := j) 2 (by omega)
          repeat (first | (refine oR ?_; (conv => whnf)) | refine kOps ?_ | refine oNil ?_ | refine sSeq ?_ | refine sR ?_ | refine qSeqN ?_)
          refine sC rfl (fun hle => ?_) (fun hle => ?_)
          · have hle : j ≤ i + 1 := by
              have := dT hle
              rw [show IntKind.i64.wrap ((i : Int) + 1) = _ from e1] at this
              omega
            obtain ⟨x, hx⟩ := get_lt (l := l) (i := j) (by omega)
            have hgx := eM_get N x
            have hqx := hq.eq x
            repeat (first | (refine oR ?_; (conv => whnf)) | refine kOps ?_ | refine sSeq ?_ | refine sR ?_ | refine qSeqN ?_ | refine sSkip ?_ | refine sBlk ?_)
            refine ⟨j, _, rfl, encI_get hx, ?_⟩
            conv => whnf
            repeat (first | (refine oR ?_; (conv => whnf)) | refine kOps ?_)
            cases hlx : mLook N x
            · rw [hlx] at hgx hqx
              (refine oCall rfl (.inl rfl) rfl rfl rfl (.fz [] _) rfl ⟨rfl, q_get hq.rt (hq.rt.get_none hqx), ?_⟩; (conv => whnf))
              repeat (first | (refine oR ?_; (conv => whnf)) | refine kOps ?_ | refine oNil ?_ | refine sSeq ?_ | refine sR ?_ | refine qSeqN ?_)
              refine ⟨j, _, rfl, encI_get hx, ?_⟩
              conv => whnf
              repeat (first | (refine oR ?_; (conv => whnf)) | refine kOps ?_)
              refine ⟨_, hgx, ?_⟩
              conv => whnf
              repeat (first | (refine oR ?_; (conv => whnf)) | refine kOps ?_ | (refine oG ?_; (conv => whnf)) | refine oH ?_ | refine oNil ?_ | refine sSeq ?_ | refine sR ?_ | refine qSeqN ?_ | refine sSkip ?_ | refine sF ?_ | refine qBlkN ?_ | (refine sBF ?_; (conv => whnf)))
              exact qLoopN (j + 2) (.keep _ _ _ _ ⟨rfl, trivial⟩ ⟨rfl, rfl, rfl, rfl, congrArg eI e3, trivial⟩ rfl rfl) (by omega) (by omega)
            · rw [hlx] at hgx hqx
              (refine oCall rfl (.inl rfl) rfl rfl rfl (.fz [] _) rfl ⟨rfl, q_get hq.rt (hq.rt.get_some hqx), ?_⟩; (conv => whnf))
              repeat (first | (refine oR ?_; (conv => whnf)) | refine kOps ?_ | refine oNil ?_ | refine sSeq ?_ | refine sR ?_ | refine qSeqN ?_)
              refine ⟨j, _, rfl, encI_get hx, ?_⟩
              conv => whnf
              repeat (first | (refine oR ?_; (conv => whnf)) | refine kOps ?_)
              refine ⟨_, hgx, ?_⟩
              conv => whnf
              repeat (first | (refine oR ?_; (conv => whnf)) | refine kOps ?_ | (refine oG ?_; (conv => whnf)) | refine oNil ?_ | refine sSeq ?_ | refine sR ?_ | refine qSeqN ?_ | (refine sBT ?_; (conv => whnf)) | (refine sBF ?_; (conv => whnf)))
              refine sC rfl (fun hbad => ?_) (fun hbad => ?_)
              · simp at hbad
              · repeat (first | (refine oR ?_; (conv => whnf)) | refine kOps ?_ | refine oNil ?_ | refine sR ?_ | refine qSeqN ?_ | refine sSkip ?_ | refine qBlkN ?_)
                exact qLoopN (j + 2) (.keep _ _ _ _ ⟨rfl, trivial⟩ ⟨rfl, rfl, rfl, rfl, congrArg eI e3, trivial⟩ rfl rfl) (by omega) (by omega)
          · repeat (first | (refine oR ?_; (conv => whnf)) | refine kOps ?_ | refine sSeq ?_ | refine sR ?_ | refine qSeqN ?_ | refine sExit ?_ | refine qSeqE ?_ | refine qX ?_ | refine qLoopE ?_)
            (refine oCall rfl (.inl rfl) rfl rfl rfl (.fz [] _) rfl ⟨rfl, c_hkeys A hq.rt.hT, ?_⟩; (conv => whnf))
            repeat (first | (refine oR ?_; (conv => whnf)) | refine kOps ?_ | refine oNil ?_ | refine qSeqN ?_)
            refine sC rfl (fun hbad => ?_) (fun hbad => ?_)
            · exfalso
              have : ¬ ((((keysL A).map fun n => [AV.int .i64 n]).length : Int) = ((eM N).length : Int)) := by simpa using hbad
              rw [List.length_map, keysL_len] at this
              omega
            · repeat (first | (refine oR ?_; (conv => whnf)) | refine kOps ?_ | refine oNil ?_ | refine sR ?_ | refine qSeqN ?_ | refine sSkip ?_ | refine qBlkN ?_)
              exact qLoopN (i + 2, A, N) (.keep _ _ _ _ ⟨rfl, trivial⟩ ⟨rfl, rfl, rfl, congrArg eI e2, trivial⟩ rfl rfl) ⟨by simp only; omega, hq⟩ (by simp only; omega)
      · refine sC rfl (fun h3 => ?_) (fun h3 => ?_)
        · repeat (first | (refine oR ?_; (conv => whnf)) | refine kOps ?_ | refine sSeq ?_ | refine sR ?_)
          (refine oCall rfl (.inl rfl) rfl rfl rfl (.fz [] _) rfl ⟨rfl, q_drop h.rt (h.rt.drop_none heq), ?_⟩; (conv => whnf))
          repeat (first | (refine oR ?_; (conv => whnf)) | refine kOps ?_ | (refine oG ?_; (conv => whnf)) | refine oH ?_ | refine oNil ?_ | refine sSeq ?_ | refine sR ?_ | refine qSeqN ?_ | refine sSkip ?_ | refine sF ?_ | (refine sBF ?_; (conv => whnf)))
          refine qJoin ?_ (hj (T, mDel M k) ⟨h.rt, h.len, fun y => ?_, ?_, mDel_nodup h.nd k⟩)
          · exact .keep _ _ _ _ ⟨congrArg (Blk.map .i64) (eM_del M k), trivial⟩ (by repeat (first | exact trivial | refine ⟨rfl, ?_⟩)) rfl rfl
          · show look T y = mLook (mDel M k) y
            rw [mLook_del h.nd, h.eq]
            split
            · rename_i hy; rw [hy, hlk]
            · rfl
          · show cnt T = (mDel M k).length
            rw [mDel_len, hlk]
            exact hcM
        · repeat (first | (refine oR ?_; (conv => whnf)) | refine kOps ?_ | refine sSeq ?_ | refine sR ?_)
          refine ⟨i, _, rfl, encI_get hn, ?_⟩
          conv => whnf
          repeat (first | (refine oR ?_; (conv => whnf)) | refine kOps ?_)
          by_cases h8 : M.length < 8
          · obtain ⟨B, hB, hBr, hBl, hBk, hBc⟩ := h.rt.put_ex k n (.inr (by omega))
            rw [heq] at hBc
            have hBc : cnt B = cnt T + 1 := hBc
            (refine oCall rfl (.inl rfl) rfl rfl rfl (.fz [] _) rfl ⟨rfl, q_put h.rt hB, ?_⟩; (conv => whnf))
            repeat (first | (refine oR ?_; (conv => whnf)) | refine kOps ?_ | (refine oG ?_; (conv => whnf)) | refine oNil ?_ | refine sSeq ?_ | refine sR ?_ | refine qSeqN ?_ | (refine sBF ?_; (conv => whnf)))
            refine sC rfl (fun h9 => ?_) (fun h9 => ?_)
            · exfalso
              simp at h9
              omega
            · repeat (first | (refine oR ?_; (conv => whnf)) | refine kOps ?_ | refine oNil ?_ | refine sSeq ?_ | refine sR ?_ | refine qSeqN ?_ | refine sSkip ?_ | refine sT ?_)
              refine ⟨i, _, rfl, encI_get hn, ?_⟩
              conv => whnf
              repeat (first | (refine oR ?_; (conv => whnf)) | refine kOps ?_ | refine oNil ?_ | refine sR ?_ | refine qSeqN ?_)
              refine qJoin ?_ (hj (B, mSet M k n) ⟨hBr, by simp only; omega, fun y => ?_, ?_, mSet_nodup h.nd k n⟩)
              · exact .keep _ _ _ _ ⟨congrArg (Blk.map .i64) (eM_set M k n), trivial⟩ (by repeat (first | exact trivial | refine ⟨rfl, ?_⟩)) rfl rfl
              · show look B y = mLook (mSet M k n) y
                rw [mLook_set, hBk, h.eq]
              · show cnt B = (mSet M k n).length
                rw [mSet_len, hlk]
                show cnt B = M.length + 1
                omega
          · (refine oCall rfl (.inl rfl) rfl rfl rfl (.fz [] _) rfl ⟨rfl, q_put h.rt (h.rt.put_no k n heq (by omega)), ?_⟩; (conv => whnf))
            repeat (first | (refine oR ?_; (conv => whnf)) | refine kOps ?_ | (refine oG ?_; (conv => whnf)) | refine oNil ?_ | refine sSeq ?_ | refine sR ?_ | refine qSeqN ?_ | (refine sBF ?_; (conv => whnf)))
            refine sC rfl (fun h9 => ?_) (fun h9 => ?_)
            · exfalso
              simp at h9
              omega
            · repeat (first | (refine oR ?_; (conv => whnf)) | refine kOps ?_ | refine oNil ?_ | refine sSeq ?_ | refine sR ?_ | refine qSeqN ?_ | refine sSkip ?_ | refine sF ?_)
              exact qJoin .kp (hj (T, M) h)
      · rename_i v
        refine sC rfl (fun h3 => ?_) (fun h3 => ?_)
        · obtain ⟨B, hB, hBr, hBl, hBk, hBc⟩ := h.rt.drop_ex heq
          repeat (first | (refine oR ?_; (conv => whnf)) | refine kOps ?_ | refine sSeq ?_ | refine sR ?_)
          (refine oCall rfl (.inl rfl) rfl rfl rfl (.fz [] _) rfl ⟨rfl, q_drop h.rt hB, ?_⟩; (conv => whnf))
          repeat (first | (refine oR ?_; (conv => whnf)) | refine kOps ?_ | (refine oG ?_; (conv => whnf)) | refine oNil ?_ | refine sSeq ?_ | refine sR ?_ | refine qSeqN ?_)
          refine ⟨_, hgk, ?_⟩
          conv => whnf
          repeat (first | (refine oR ?_; (conv => whnf)) | refine kOps ?_ | (refine oG ?_; (conv => whnf)) | refine oNil ?_ | refine qSeqN ?_ | (refine sBT ?_; (conv => whnf)) | (refine sBF ?_; (conv => whnf)))
          refine sC rfl (fun hbad => ?_) (fun hbad => ?_)
          · simp at hbad
          · repeat (first | (refine oR ?_; (conv => whnf)) | refine kOps ?_ | refine oNil ?_ | refine sSeq ?_ | refine sR ?_ | refine qSeqN ?_ | refine sSkip ?_)
            refine qJoin ?_ (hj (B, mDel M k) ⟨hBr, by simp only; omega, fun y => ?_, ?_, mDel_nodup h.nd k⟩)
            · exact .keep _ _ _ _ ⟨congrArg (Blk.map .i64) (eM_del M k), trivial⟩ (by repeat (first | exact trivial | refine ⟨rfl, ?_⟩)) rfl rfl
            · show look B y = mLook (mDel M k) y
              rw [mLook_del h.nd, hBk, h.eq]
            · show cnt B = (mDel M k).length
              rw [mDel_len, hlk]
              show cnt B = M.length - 1
              omega
        · repeat (first | (refine oR ?_; (conv => whnf)) | refine kOps ?_ | refine sSeq ?_ | refine sR ?_)
          refine ⟨i, _, rfl, encI_get hn, ?_⟩
          conv => whnf
          repeat (first | (refine oR ?_; (conv => whnf)) | refine kOps ?_)
          obtain ⟨B, hB, hBr, hBl, hBk, hBc⟩ := h.rt.put_ex k n (.inl (by rw [heq]; rfl))
          rw [heq] at hBc
          have hBc : cnt B = cnt T := hBc
          (refine oCall rfl (.inl rfl) rfl rfl rfl (.fz [] _) rfl ⟨rfl, q_put h.rt hB, ?_⟩; (conv => whnf))
          repeat (first | (refine oR ?_; (conv => whnf)) | refine kOps ?_ | refine oH ?_ | refine oNil ?_ | refine sSeq ?_ | refine sR ?_ | refine qSeqN ?_ | refine sSkip ?_ | refine sT ?_ | refine sF ?_ | (refine sBT ?_; (conv => whnf)))
          refine ⟨i, _, rfl, encI_get hn, ?_⟩
          conv => whnf
          repeat (first | (refine oR ?_; (conv => whnf)) | refine kOps ?_ | refine oNil ?_ | refine sR ?_ | refine qSeqN ?_)
          refine qJoin ?_ (hj (B, mSet M k n) ⟨hBr, by simp only; omega, fun y => ?_, ?_, mSet_nodup h.nd k n⟩)
          · exact .keep _ _ _ _ ⟨congrArg (Blk.map .i64) (eM_set M k n), trivial⟩ (by repeat (first | exact trivial | refine ⟨rfl, ?_⟩)) rfl rfl
          · show look B y = mLook (mSet M k n) y
            rw [mLook_set, hBk, h.eq]
          · show cnt B = (mSet M k n).length
            rw [mSet_len, hlk]
            show cnt B = M.length
            omega
    · repeat (first | (refine oR ?_; (conv => whnf)) | refine kOps ?_ | refine oNil ?_ | refine sSeq ?_ | refine sR ?_ | refine qSeqN ?_ | refine sRet ?_ | refine sExit ?_ | refine qSeqE ?_ | refine qX ?_ | refine qLoopE ?_)
      refine qEnd ?_
      conv => whnf
      rfl
end Go.Proofs.Ytcfbhojpemjjpaa
