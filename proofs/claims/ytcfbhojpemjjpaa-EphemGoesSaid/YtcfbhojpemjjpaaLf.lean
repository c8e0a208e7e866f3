/- The laws EphemGoes, EphemSum. -/
import Derived.Test.YtcfbhojpemjjpaaLe
set_option linter.unusedVariables false
set_option linter.unusedSimpArgs false
namespace Go.Proofs.Ytcfbhojpemjjpaa
open Go Go.RowKit

theorem anyI_snoc {l : List Int} {i : Nat} {x : Int} (h : l[i]? = some x) (f : Int → Bool) : (l.take (i + 1)).any f = ((l.take i).any f || f x) := by
  obtain ⟨h1, rfl⟩ := List.getElem?_eq_some_iff.1 h
  rw [List.take_succ_eq_append_getElem h1, List.any_append]
  simp
set_option maxRecDepth 100000 in
theorem EphemGoes (T : List Pl) (keys : List Int) : C Try.prog 11 [encT T, encI keys] (.bool true) := by
  refine fnOk mixed tyOk Try.func11 (code := Try.f11.body.getD .skip) rfl rfl rfl (gC_in ?_)
  repeat (first | (refine oR ?_; (conv => whnf)) | refine kOps ?_ | refine oNil ?_ | refine sSeq ?_ | refine sR ?_ | refine qSeqN ?_)
  rcases right11_cases T with hc | ⟨hc, h⟩
  · (refine oCall rfl (.inl rfl) rfl rfl rfl (.fz [] _) rfl ⟨rfl, hc, ?_⟩; (conv => whnf))
    repeat (first | (refine oR ?_; (conv => whnf)) | refine kOps ?_ | refine oH ?_ | refine oNil ?_ | refine sSeq ?_ | refine sR ?_ | refine qSeqN ?_ | refine sT ?_ | (refine sBT ?_; (conv => whnf)))
    (refine oCall rfl (.inl rfl) rfl rfl rfl (.fz [] _) rfl ⟨rfl, c_shown11, ?_⟩; (conv => whnf))
    repeat (first | (refine oR ?_; (conv => whnf)) | refine kOps ?_ | refine oNil ?_ | refine qSeqN ?_ | refine sRet ?_ | refine qSeqR ?_)
    refine qEnd ?_
    conv => whnf
    rfl
  · (refine oCall rfl (.inl rfl) rfl rfl rfl (.fz [] _) rfl ⟨rfl, hc, ?_⟩; (conv => whnf))
    repeat (first | (refine oR ?_; (conv => whnf)) | refine kOps ?_ | (refine oG ?_; (conv => whnf)) | (refine sBF ?_; (conv => whnf)))
    refine oS rfl rfl rfl (fun hl => ?_) (fun hl => ?_)
    · repeat (first | (refine oR ?_; (conv => whnf)) | refine kOps ?_ | refine oH ?_ | refine oNil ?_ | refine sSeq ?_ | refine sR ?_ | refine qSeqN ?_ | refine sT ?_ | (refine sBT ?_; (conv => whnf)))
      (refine oCall rfl (.inl rfl) rfl rfl rfl (.fz [] _) rfl ⟨rfl, c_shown11, ?_⟩; (conv => whnf))
      repeat (first | (refine oR ?_; (conv => whnf)) | refine kOps ?_ | refine oNil ?_ | refine qSeqN ?_ | refine sRet ?_ | refine qSeqR ?_)
      refine qEnd ?_
      conv => whnf
      rfl
    · have hl : keys.length ≤ 30 := by have := dF hl; simp at this; omega
      have hlT : keys.length ≤ 1099511627776 := by omega
      have hw := woGo_tells keys T [] h
      have hwl := woGo_len2 keys T []
      have hwo := c_ewo T keys h (by omega)
      rcases he : woGo keys T [] with ⟨A, had⟩
      rw [he] at hw hwl hwo
      have hAr : Rt A := hw.rt
      have hAl : ∀ y, look A y = if y ∈ keys then none else look T y := hw.look
      have hAc : cnt A + had.length = cnt T := by have := hw.cnt; simpa using this
      have hah : ∀ y v, y ∈ keys → look T y = some v → v ∈ had := hw.had
      have hhl : had.length ≤ 1099511627776 := by simp at hwl; omega
      have hcT := cnt_le T
      have hTl := h.le
      have hok := (rightL_iff A).2 hAr ▸ c_right11 A
      skip
      (refine oCall rfl (.inr ⟨_, _, _, rfl, rfl, rfl⟩) rfl rfl rfl (.fz [] _) rfl ⟨rfl, c_shown11, ?_⟩; (conv => whnf))
      repeat (first | (refine oR ?_; (conv => whnf)) | refine kOps ?_ | (refine oG ?_; (conv => whnf)) | refine oNil ?_ | refine sSeq ?_ | refine sR ?_ | refine qSeqN ?_ | refine sSkip ?_ | refine sF ?_ | (refine sBF ?_; (conv => whnf)))
      (refine oCall rfl (.inl rfl) rfl rfl rfl (.fz [] _) rfl ⟨rfl, hwo, ?_⟩; (conv => whnf))
      repeat (first | (refine oR ?_; (conv => whnf)) | refine kOps ?_ | refine oNil ?_ | refine sSeq ?_ | refine sR ?_ | refine qSeqN ?_)
      (refine oCall rfl (.inl rfl) rfl rfl rfl (.fz [] _) rfl ⟨rfl, c_its11 T h.hT, ?_⟩; (conv => whnf))
      repeat refine kOps ?_
      (refine oCall rfl (.inl rfl) rfl rfl rfl (.fz [] _) rfl ⟨rfl, c_pairs11 T h, ?_⟩; (conv => whnf))
      repeat (first | (refine oR ?_; (conv => whnf)) | refine kOps ?_ | refine oNil ?_ | refine sSeq ?_ | refine sR ?_ | refine qSeqN ?_)
      (refine oCall rfl (.inl rfl) rfl rfl rfl (.fz [] _) rfl ⟨rfl, hok, ?_⟩; (conv => whnf))
      repeat (first | (refine oR ?_; (conv => whnf)) | refine kOps ?_ | (refine oG ?_; (conv => whnf)))
      (refine oCall rfl (.inr ⟨_, _, _, rfl, rfl, rfl⟩) rfl rfl rfl (.fz [] _) rfl ⟨rfl, c_prs A hAr.hT, ?_⟩; (conv => whnf))
      repeat (first | (refine oR ?_; (conv => whnf)) | refine kOps ?_ | (refine oG ?_; (conv => whnf)) | refine oNil ?_ | refine qSeqN ?_ | (refine sBF ?_; (conv => whnf)))
      refine sC rfl (fun hbad => ?_) (fun hbad => ?_)
      · exfalso
        rw [List.length_map, List.length_map, List.length_map, pairsL_cnt, pairsL_cnt] at hbad
        rw [show IntKind.i64.wrap ((cnt A : Int) + (had.length : Int)) = (cnt T : Int) by rw [wrapI (by omega) (by omega)]; omega] at hbad
        simp at hbad
      · repeat (first | (refine oR ?_; (conv => whnf)) | refine kOps ?_ | refine oNil ?_ | refine sSeq ?_ | refine sR ?_ | refine qSeqN ?_ | refine sSkip ?_ | refine sBlk ?_)
        refine sLoop (fun i => i ≤ (pairsL T).length) (fun i => ⟨tl [(1, encI keys), (5, encT A), (6, encI had), (7, encQ (pairsL T)), (8, eI (i : Int))], Ll [], 122, 0, [], none⟩) (fun i => (pairsL T).length - i) 0 .kp (Nat.zero_le _) fun i hi => ?_
        have hpl : (pairsL T).length ≤ 1099511627776 := by rw [pairsL_cnt]; omega
        repeat (first | (refine oR ?_; (conv => whnf)) | refine kOps ?_ | refine oNil ?_ | refine sSeq ?_ | refine sR ?_ | refine qSeqN ?_)
        refine sC rfl (fun h1 => ?_) (fun h1 => ?_)
        · have hlt : i < (pairsL T).length := by have := dT h1; simpa using this
          obtain ⟨q, hq⟩ := get_lt hlt
          have hlq := h.look_pair (List.mem_of_getElem? hq)
          repeat (first | (refine oR ?_; (conv => whnf)) | refine kOps ?_ | refine oNil ?_ | refine sSeq ?_ | refine sR ?_ | refine qSeqN ?_ | refine sSkip ?_ | refine sBlk ?_)
          refine sLoop (fun j => j ≤ keys.length) (fun j => ⟨tl [(1, encI keys), (5, encT A), (6, encI had), (7, encQ (pairsL T)), (8, eI (i : Int)), (9, .bool ((keys.take j).any fun x => x == q.1)), (10, eI (j : Int))], Ll [], 122, 0, [], none⟩) (fun j => keys.length - j) 0 .kp (Nat.zero_le _) fun j hj => ?_
          repeat (first | (refine oR ?_; (conv => whnf)) | refine kOps ?_ | refine oNil ?_ | refine sSeq ?_ | refine sR ?_ | refine qSeqN ?_)
          refine sC rfl (fun h2 => ?_) (fun h2 => ?_)
          · have hjl : j < keys.length := by have := dT h2; simpa using this
            obtain ⟨x, hx⟩ := get_lt hjl
            have hs := anyI_snoc hx (fun x => x == q.1)
            repeat (first | refine sSeq ?_ | refine qSeqN ?_ | refine sSkip ?_ | refine sBlk ?_ | refine sD ?_ | (apply drRun; exact rfl; exact .inl rfl; (conv => whnf); exact .mk rfl))
            refine drS rfl rfl rfl (fun h3 => ?_) (fun h3 => ?_)
            · rw [h3, Bool.true_or] at hs
              repeat (first | (refine oR ?_; (conv => whnf)) | refine kOps ?_ | refine oNil ?_ | refine sR ?_ | refine qSeqN ?_ | refine qBlkN ?_ | (refine sBT ?_; (conv => whnf)) | exact KPl.mk rfl | (apply drRun; exact rfl; exact .inl rfl; (conv => whnf); exact .mk rfl) | refine dH ?_ | (apply drRun; exact rfl; exact .inl rfl; (conv => whnf)) | refine drNil ?_)
              exact qLoopN (j + 1) (.keep _ _ _ _ trivial ⟨rfl, rfl, rfl, rfl, rfl, by rw [hs]; rfl, congrArg eI (wrapS hjl hlT), trivial⟩ rfl rfl) hjl (by omega)
            · rw [h3, Bool.false_or] at hs
              repeat (first | (apply drRun; exact rfl; exact .inr ⟨_, _, _, rfl, rfl, rfl⟩; (conv => whnf); exact .mk rfl) | (apply drRun; exact rfl; exact .inr ⟨_, _, _, rfl, rfl, rfl⟩; (conv => whnf)))
              refine ⟨j, _, rfl, encI_get hx, ?_⟩
              conv => whnf
              exact .mk rfl
              repeat (first | (apply drRun; exact rfl; exact .inr ⟨_, _, _, rfl, rfl, rfl⟩; (conv => whnf); exact .mk rfl) | (apply drRun; exact rfl; exact .inr ⟨_, _, _, rfl, rfl, rfl⟩; (conv => whnf)))
              refine ⟨i, _, rfl, encP_get hq, ?_⟩
              conv => whnf
              exact .mk rfl
              repeat (first | (refine oR ?_; (conv => whnf)) | refine kOps ?_ | refine oNil ?_ | refine sR ?_ | refine qSeqN ?_ | refine qBlkN ?_ | (refine sBF ?_; (conv => whnf)) | exact KPl.mk rfl | (apply drRun; exact rfl; exact .inl rfl; (conv => whnf); exact .mk rfl) | (apply drRun; exact rfl; exact .inr ⟨_, _, _, rfl, rfl, rfl⟩; (conv => whnf); exact .mk rfl) | (apply drRun; exact rfl; exact .inl rfl; (conv => whnf)) | refine drNil ?_)
              exact qLoopN (j + 1) (.keep _ _ _ _ trivial ⟨rfl, rfl, rfl, rfl, rfl, by rw [hs]; rfl, congrArg eI (wrapS hjl hlT), trivial⟩ rfl rfl) hjl (by omega)
          · have hge : keys.length ≤ j := by have := dF h2; simpa using this
            have htk : keys.take j = keys := List.take_of_length_le hge
            rw [htk]
            by_cases hin : q.1 ∈ keys
            · have hG : (keys.any fun x => x == q.1) = true := by rw [List.any_eq_true]; exact ⟨q.1, hin, by simp⟩
              rw [hG]
              repeat (first | (refine oR ?_; (conv => whnf)) | refine kOps ?_ | refine sSeq ?_ | refine sR ?_ | refine qSeqN ?_ | refine sExit ?_ | refine qSeqE ?_ | refine qX ?_ | refine qLoopE ?_)
              refine ⟨i, _, rfl, encP_get hq, ?_⟩
              conv => whnf
              repeat (first | (refine oR ?_; (conv => whnf)) | refine kOps ?_)
              (refine oCall rfl (.inl rfl) rfl rfl rfl (.fz [] _) rfl ⟨rfl, q_eget hAr (hAr.get_none (k := q.1) (by rw [hAl, if_pos hin])), ?_⟩; (conv => whnf))
              repeat (first | (refine oR ?_; (conv => whnf)) | refine kOps ?_ | (refine oG ?_; (conv => whnf)) | refine oH ?_ | refine oNil ?_ | refine sSeq ?_ | refine sR ?_ | refine qSeqN ?_ | (refine sBF ?_; (conv => whnf)))
              refine ⟨i, _, rfl, encP_get hq, ?_⟩
              conv => whnf
              repeat (first | refine kOps ?_ | (refine oG ?_; (conv => whnf)) | (refine sBT ?_; (conv => whnf)))
              refine oS rfl rfl rfl (fun h4 => ?_) (fun h4 => ?_)
              · have h4 : q.2 ≠ 0 := by simpa using h4
                have htp := times_pos h4 (hah q.1 q.2 hin hlq)
                repeat (first | refine kOps ?_ | (refine oG ?_; (conv => whnf)))
                refine ⟨i, _, rfl, encP_get hq, ?_⟩
                conv => whnf
                repeat (first | refine kOps ?_ | (refine oG ?_; (conv => whnf)))
                (refine oCall rfl (.inr ⟨_, _, _, rfl, rfl, rfl⟩) rfl rfl rfl (.fz [] _) rfl ⟨rfl, c_times had q.2 hhl, ?_⟩; (conv => whnf))
                repeat (first | (refine oR ?_; (conv => whnf)) | refine kOps ?_ | (refine oG ?_; (conv => whnf)) | refine oNil ?_ | refine qSeqN ?_ | (refine sBT ?_; (conv => whnf)) | (refine sBF ?_; (conv => whnf)))
                refine sC rfl (fun h5 => ?_) (fun h5 => ?_)
                · exfalso
                  simp at h5
                  omega
                · repeat (first | (refine oR ?_; (conv => whnf)) | refine kOps ?_ | refine oNil ?_ | refine sR ?_ | refine qSeqN ?_ | refine sSkip ?_ | refine qBlkN ?_)
                  exact qLoopN (i + 1) .kp hlt (by omega)
              · repeat (first | (refine oR ?_; (conv => whnf)) | refine kOps ?_ | (refine oG ?_; (conv => whnf)) | refine oH ?_ | refine oNil ?_ | refine sR ?_ | refine qSeqN ?_ | refine sSkip ?_ | refine sF ?_ | refine qBlkN ?_ | (refine sBF ?_; (conv => whnf)))
                exact qLoopN (i + 1) .kp hlt (by omega)
            · have hG : (keys.any fun x => x == q.1) = false := by
                rw [List.any_eq_false]
                intro x hx he
                exact hin (by have : x = q.1 := by simpa using he
                              exact this ▸ hx)
              rw [hG]
              repeat (first | (refine oR ?_; (conv => whnf)) | refine kOps ?_ | refine sSeq ?_ | refine sR ?_ | refine qSeqN ?_ | refine sExit ?_ | refine qSeqE ?_ | refine qX ?_ | refine qLoopE ?_)
              refine ⟨i, _, rfl, encP_get hq, ?_⟩
              conv => whnf
              repeat (first | (refine oR ?_; (conv => whnf)) | refine kOps ?_)
              (refine oCall rfl (.inl rfl) rfl rfl rfl (.fz [] _) rfl ⟨rfl, q_eget hAr (hAr.get_some (k := q.1) (v := q.2) (by rw [hAl, if_neg hin]; exact hlq)), ?_⟩; (conv => whnf))
              repeat (first | (refine oR ?_; (conv => whnf)) | refine kOps ?_ | (refine oG ?_; (conv => whnf)) | refine oNil ?_ | refine sSeq ?_ | refine sR ?_ | refine qSeqN ?_)
              refine ⟨i, _, rfl, encP_get hq, ?_⟩
              conv => whnf
              repeat (first | (refine oR ?_; (conv => whnf)) | refine kOps ?_ | (refine oG ?_; (conv => whnf)) | (refine sBT ?_; (conv => whnf)) | (refine sBF ?_; (conv => whnf)))
              refine oS rfl rfl rfl (fun h4 => ?_) (fun h4 => ?_)
              · simp at h4
              · repeat (first | (refine oR ?_; (conv => whnf)) | refine kOps ?_ | (refine oG ?_; (conv => whnf)) | refine oH ?_ | refine oNil ?_ | refine sR ?_ | refine qSeqN ?_ | refine sSkip ?_ | refine sF ?_ | refine qBlkN ?_ | (refine sBF ?_; (conv => whnf)))
                exact qLoopN (i + 1) .kp hlt (by omega)
        · repeat (first | (refine oR ?_; (conv => whnf)) | refine kOps ?_ | refine oNil ?_ | refine sSeq ?_ | refine sR ?_ | refine qSeqN ?_ | refine sRet ?_ | refine sExit ?_ | refine qSeqE ?_ | refine qX ?_ | refine qLoopE ?_)
          refine qEnd ?_
          conv => whnf
          rfl
set_option maxRecDepth 100000 in
theorem EphemSum (T : List Pl) : C Try.prog 12 [encT T] (.bool true) := by
  refine fnOk mixed tyOk Try.func12 (code := Try.f12.body.getD .skip) rfl rfl rfl (gC_in ?_)
  repeat (first | (refine oR ?_; (conv => whnf)) | refine kOps ?_ | refine oNil ?_ | refine sSeq ?_ | refine sR ?_ | refine qSeqN ?_)
  rcases right11_cases T with hc | ⟨hc, h⟩
  · (refine oCall rfl (.inl rfl) rfl rfl rfl (.fz [] _) rfl ⟨rfl, hc, ?_⟩; (conv => whnf))
    repeat (first | (refine oR ?_; (conv => whnf)) | refine kOps ?_ | refine oH ?_ | refine oNil ?_ | refine sSeq ?_ | refine sR ?_ | refine qSeqN ?_ | refine sT ?_ | (refine sBT ?_; (conv => whnf)))
    (refine oCall rfl (.inl rfl) rfl rfl rfl (.fz [] _) rfl ⟨rfl, c_shown11, ?_⟩; (conv => whnf))
    repeat (first | (refine oR ?_; (conv => whnf)) | refine kOps ?_ | refine oNil ?_ | refine qSeqN ?_ | refine sRet ?_ | refine qSeqR ?_)
    refine qEnd ?_
    conv => whnf
    rfl
  · (refine oCall rfl (.inl rfl) rfl rfl rfl (.fz [] _) rfl ⟨rfl, hc, ?_⟩; (conv => whnf))
    repeat (first | (refine oR ?_; (conv => whnf)) | refine kOps ?_)
    (refine oCall rfl (.inr ⟨_, _, _, rfl, rfl, rfl⟩) rfl rfl rfl (.fz [] _) rfl ⟨rfl, c_shown11, ?_⟩; (conv => whnf))
    repeat (first | (refine oR ?_; (conv => whnf)) | refine kOps ?_ | (refine oG ?_; (conv => whnf)) | refine oNil ?_ | refine sSeq ?_ | refine sR ?_ | refine qSeqN ?_ | refine sSkip ?_ | refine sF ?_ | (refine sBF ?_; (conv => whnf)))
    (refine oCall rfl (.inl rfl) rfl rfl rfl (.fz [] _) rfl ⟨rfl, c_prs T h.hT, ?_⟩; (conv => whnf))
    repeat (first | (refine oR ?_; (conv => whnf)) | refine kOps ?_ | refine oNil ?_ | refine sSeq ?_ | refine sR ?_ | refine qSeqN ?_ | refine sBlk ?_)
    have hp8 : (pairsL T).length ≤ 8 := Nat.le_trans (pairsL_le T) h.le
    have hown : ∀ v, ownedL T v = (pairsL T).countP (owns v) := fun _ => rfl
    generalize hl : pairsL T = l at hp8 hown
    have hp8' : l.length ≤ 1099511627776 := by omega
    refine sLoop (fun i => i ≤ l.length) (fun i => ⟨tl [(0, encT T), (3, encQ l), (4, eI (((l.take i).countP nz : Nat) : Int)), (5, eI ((l.countP (seen l i) : Nat) : Int)), (6, eI (i : Int))], Ll [], 74, 0, [], none⟩) (fun i => l.length - i) 0
      (.keep _ _ _ _ trivial ⟨rfl, rfl, rfl, by rw [seen_zero]; rfl, rfl, trivial⟩ rfl rfl) (Nat.zero_le _) fun i hi => ?_
    have hn8 : (l.take i).countP nz ≤ 8 := Nat.le_trans List.countP_le_length (Nat.le_trans (List.length_take_le' _ _) hp8)
    have hs8 : l.countP (seen l i) ≤ 8 := Nat.le_trans List.countP_le_length hp8
    repeat (first | (refine oR ?_; (conv => whnf)) | refine kOps ?_ | refine sSeq ?_ | refine sR ?_)
    refine oS rfl rfl rfl (fun h1 => ?_) (fun h1 => ?_)
    · have hlt : i < l.length := by have := dT h1; simpa using this
      obtain ⟨q, hq⟩ := get_lt hlt
      have hns := cntP_snoc (f := nz) hq
      repeat (first | (refine oR ?_; (conv => whnf)) | refine kOps ?_ | (refine oG ?_; (conv => whnf)) | refine oNil ?_ | refine qSeqN ?_ | (refine sBT ?_; (conv => whnf)))
      refine sC rfl (fun h2 => ?_) (fun h2 => ?_)
      · repeat (first | (refine oR ?_; (conv => whnf)) | refine kOps ?_ | refine sSeq ?_ | refine sR ?_ | refine qSeqN ?_ | refine sSkip ?_ | refine sBlk ?_)
        refine ⟨i, _, rfl, encP_get hq, ?_⟩
        conv => whnf
        repeat (first | (refine oR ?_; (conv => whnf)) | refine kOps ?_ | refine oNil ?_ | refine qSeqN ?_)
        refine sC rfl (fun h3 => ?_) (fun h3 => ?_)
        · have h3 : q.2 = 0 := by simpa using h3
          rw [if_neg (by simp [h3])] at hns
          repeat (first | (refine oR ?_; (conv => whnf)) | refine kOps ?_ | refine oNil ?_ | refine sR ?_ | refine qSeqN ?_ | refine sExit ?_ | refine qSeqE ?_ | refine qX ?_)
          exact qLoopN (i + 1) (.keep _ _ _ _ trivial ⟨rfl, rfl, by rw [hns]; rfl, by rw [seen_same hq (.inl h3)]; rfl, congrArg eI (wrapS hlt hp8'), trivial⟩ rfl rfl) hlt (by omega)
        · have h3 : q.2 ≠ 0 := by simpa using h3
          rw [if_pos (by simp [h3])] at hns
          have hw1 : W ((((l.take i).countP nz : Nat) : Int) + 1) = (((l.take i).countP nz + 1 : Nat) : Int) := wrapS (m := 100) (by omega) (by omega)
          repeat (first | (refine oR ?_; (conv => whnf)) | refine kOps ?_ | refine oNil ?_ | refine sSeq ?_ | refine sR ?_ | refine qSeqN ?_ | refine sSkip ?_ | refine sBlk ?_)
          refine sLoop (fun j => j ≤ i) (fun j => ⟨tl [(0, encT T), (3, encQ l), (4, eI (((l.take (i + 1)).countP nz : Nat) : Int)), (5, eI ((l.countP (seen l i) : Nat) : Int)), (6, eI (i : Int)), (7, .bool (!((l.take j).any fun r => r.2 == q.2))), (8, eI (j : Int))], Ll [], 74, 0, [], none⟩) (fun j => i - j) 0
            (.keep _ _ _ _ trivial ⟨rfl, rfl, by rw [hns]; exact congrArg eI hw1, rfl, rfl, rfl, rfl, trivial⟩ rfl rfl) (Nat.zero_le _) fun j hj => ?_
          repeat (first | (refine oR ?_; (conv => whnf)) | refine kOps ?_ | refine oNil ?_ | refine sSeq ?_ | refine sR ?_ | refine qSeqN ?_)
          refine sC rfl (fun h4 => ?_) (fun h4 => ?_)
          · have hjl : j < i := by have := dT h4; omega
            have hji : i ≤ 1099511627776 := by omega
            obtain ⟨r, hr⟩ := get_lt (l := l) (i := j) (by omega)
            have hs := any_snoc hr (fun r => r.2 == q.2)
            repeat (first | refine sSeq ?_ | refine qSeqN ?_ | refine sSkip ?_ | refine sBlk ?_ | refine sD ?_ | (apply drRun; exact rfl; exact .inl rfl; (conv => whnf); exact .mk rfl))
            refine drS rfl rfl rfl (fun h5 => ?_) (fun h5 => ?_)
            · have h5 : ((l.take j).any fun r => r.2 == q.2) = false := by simpa using h5
              rw [h5, Bool.false_or] at hs
              repeat (first | (apply drRun; exact rfl; exact .inr ⟨_, _, _, rfl, rfl, rfl⟩; (conv => whnf); exact .mk rfl) | (apply drRun; exact rfl; exact .inr ⟨_, _, _, rfl, rfl, rfl⟩; (conv => whnf)))
              refine ⟨j, _, rfl, encP_get hr, ?_⟩
              conv => whnf
              exact .mk rfl
              repeat (first | (apply drRun; exact rfl; exact .inr ⟨_, _, _, rfl, rfl, rfl⟩; (conv => whnf); exact .mk rfl) | (apply drRun; exact rfl; exact .inr ⟨_, _, _, rfl, rfl, rfl⟩; (conv => whnf)))
              refine ⟨i, _, rfl, encP_get hq, ?_⟩
              conv => whnf
              exact .mk rfl
              repeat (first | (refine oR ?_; (conv => whnf)) | refine kOps ?_ | refine oNil ?_ | refine sR ?_ | refine qSeqN ?_ | refine qBlkN ?_ | (refine sBT ?_; (conv => whnf)) | exact KPl.mk rfl | (apply drRun; exact rfl; exact .inl rfl; (conv => whnf); exact .mk rfl) | (apply drRun; exact rfl; exact .inr ⟨_, _, _, rfl, rfl, rfl⟩; (conv => whnf); exact .mk rfl) | (apply drRun; exact rfl; exact .inl rfl; (conv => whnf)) | refine drNil ?_)
              exact qLoopN (j + 1) (.keep _ _ _ _ trivial ⟨rfl, rfl, rfl, rfl, rfl, by rw [hs]; rfl, congrArg eI (wrapS hjl hji), trivial⟩ rfl rfl) hjl (by omega)
            · have h5 : ((l.take j).any fun r => r.2 == q.2) = true := by simpa using h5
              rw [h5, Bool.true_or] at hs
              repeat (first | (refine oR ?_; (conv => whnf)) | refine kOps ?_ | refine oNil ?_ | refine sR ?_ | refine qSeqN ?_ | refine qBlkN ?_ | (refine sBF ?_; (conv => whnf)) | exact KPl.mk rfl | (apply drRun; exact rfl; exact .inl rfl; (conv => whnf); exact .mk rfl) | refine dH ?_ | (apply drRun; exact rfl; exact .inl rfl; (conv => whnf)) | refine drNil ?_)
              exact qLoopN (j + 1) (.keep _ _ _ _ trivial ⟨rfl, rfl, rfl, rfl, rfl, by rw [hs]; rfl, congrArg eI (wrapS hjl hji), trivial⟩ rfl rfl) hjl (by omega)
          · have hge : j = i := by have := dF h4; omega
            subst hge
            repeat (first | (refine oR ?_; (conv => whnf)) | refine kOps ?_ | refine oNil ?_ | refine sSeq ?_ | refine sR ?_ | refine qSeqN ?_ | refine sExit ?_ | refine qSeqE ?_ | refine qX ?_ | refine qLoopE ?_)
            refine sC rfl (fun h5 => ?_) (fun h5 => ?_)
            · have h5 : ((l.take j).any fun r => r.2 == q.2) = false := by simpa using h5
              have hsn := seen_new hq h3 h5
              have hs8' : l.countP (seen l (j + 1)) ≤ 8 := Nat.le_trans List.countP_le_length hp8
              have hw2 : W (((l.countP (seen l j) : Nat) : Int) + ((l.countP (owns q.2) : Nat) : Int)) = ((l.countP (seen l (j + 1)) : Nat) : Int) := by rw [show W (((l.countP (seen l j) : Nat) : Int) + ((l.countP (owns q.2) : Nat) : Int)) = _ from wrapI (by omega) (by omega)]; omega
              have hco := c_owned T q.2 h.hT
              rw [hown] at hco
              repeat (first | (refine oR ?_; (conv => whnf)) | refine kOps ?_ | refine sR ?_)
              refine ⟨j, _, rfl, encP_get hq, ?_⟩
              conv => whnf
              repeat (first | (refine oR ?_; (conv => whnf)) | refine kOps ?_)
              (refine oCall rfl (.inl rfl) rfl rfl rfl (.fz [] _) rfl ⟨rfl, hco, ?_⟩; (conv => whnf))
              repeat (first | (refine oR ?_; (conv => whnf)) | refine kOps ?_ | refine oNil ?_ | refine sR ?_ | refine qSeqN ?_ | refine qBlkN ?_)
              exact qLoopN (j + 1) (.keep _ _ _ _ trivial ⟨rfl, rfl, rfl, congrArg eI hw2, congrArg eI (wrapS hlt hp8'), trivial⟩ rfl rfl) hlt (by omega)
            · have h5 : ((l.take j).any fun r => r.2 == q.2) = true := by simpa using h5
              repeat (first | (refine oR ?_; (conv => whnf)) | refine kOps ?_ | refine oNil ?_ | refine sR ?_ | refine qSeqN ?_ | refine sSkip ?_ | refine qBlkN ?_)
              exact qLoopN (j + 1) (.keep _ _ _ _ trivial ⟨rfl, rfl, rfl, by rw [seen_same hq (.inr h5)]; rfl, congrArg eI (wrapS hlt hp8'), trivial⟩ rfl rfl) hlt (by omega)
      · exfalso
        have := dF h2
        omega
    · have hge : l.length ≤ i := by have := dF h1; simpa using this
      have e : i = l.length := by omega
      subst e
      repeat (first | (refine oR ?_; (conv => whnf)) | refine kOps ?_ | refine oH ?_ | refine oNil ?_ | refine sSeq ?_ | refine sR ?_ | refine qSeqN ?_ | refine sF ?_ | refine sExit ?_ | refine qSeqE ?_ | refine qX ?_ | refine qLoopE ?_ | (refine sBF ?_; (conv => whnf)))
      refine oS rfl rfl rfl (fun h2 => ?_) (fun h2 => ?_)
      · repeat (first | (refine oR ?_; (conv => whnf)) | refine kOps ?_ | (refine oG ?_; (conv => whnf)) | refine oNil ?_ | refine qSeqN ?_ | refine sRet ?_ | (refine sBT ?_; (conv => whnf)))
        refine qEnd ?_
        conv => whnf
        exact congrArg AV.bool (by simp; omega)
      · exfalso
        rw [seen_all, List.take_length] at h2
        simp at h2
end Go.Proofs.Ytcfbhojpemjjpaa
