/- Part 5 of the walk that the law rests on: Fi, Fj, Fk, Fl, Fm, Fn, Fo, Fp, Fq, Fr, Fs, Ft. -/
import Derived.Test.YtcmciimogcfakaaGreatM4
/- The document's Sorted and Live. -/
set_option linter.unusedVariables false
set_option linter.unusedSimpArgs false
namespace Go.Proofs.YtcmciimogcfakaaGreat
open Go Go.RowKit
open Classical

def seA (cs : List Ce) (i : Nat) : Int := (cs[i]?.getD ce0).ob.se
def hd (cs : List Ce) (i : Nat) : Int := pk i (gAt cs i)
theorem seA_of {cs : List Ce} {i : Nat} {c : Ce} (h : cs[i]? = some c) : seA cs i = c.ob.se := by simp [seA, h]
/-- Two that are sorted and tell the same are one. -/
theorem sort_uniq {f : Nat → Int} : ∀ {X Y : List Nat}, X.Perm Y → X.Pairwise (fun a b => f a < f b) → Y.Pairwise (fun a b => f a < f b) → X = Y
  | [], Y, h, _, _ => (List.Perm.eq_nil h.symm).symm
  | a :: X, [], h, _, _ => by have := h.length_eq; simp at this
  | a :: X, b :: Y, h, hX, hY => by
    have e : a = b := by
      rw [List.pairwise_cons] at hX hY
      have ha : a ∈ b :: Y := h.subset (by simp)
      have hb : b ∈ a :: X := h.symm.subset (by simp)
      rcases List.mem_cons.1 ha with h1 | h1
      · exact h1
      · rcases List.mem_cons.1 hb with h2 | h2
        · exact h2.symm
        · have := hX.1 b h2
          have := hY.1 a h1
          omega
    subst e
    rw [sort_uniq (List.Perm.cons_inv h) (List.pairwise_cons.1 hX).2 (List.pairwise_cons.1 hY).2]
def liveX (cs : List Ce) : List Nat := (inIx 1 cs 0).mergeSort fun a b => decide (seA cs a ≤ seA cs b)
def liveL (cs : List Ce) : List Int := (liveX cs).map (hd cs)
/-- Serials part those who are there. -/
def Un (cs : List Ce) : Prop := ∀ (i k : Nat) (c d : Ce), k < i → cs[i]? = some c → cs[k]? = some d → th c = true → th d = true → d.ob.se ≠ c.ob.se
theorem inIx_nodup (st : Int) : ∀ (cs : List Ce) (k : Nat), (inIx st cs k).Pairwise (· < ·)
  | [], _ => .nil
  | c :: cs, k => by
    unfold inIx
    split
    · rw [List.pairwise_cons]
      exact ⟨fun i hi => by have := (inIx_mem.1 hi).1; omega, inIx_nodup st cs (k + 1)⟩
    · exact inIx_nodup st cs (k + 1)
theorem inIx_len (st : Int) : ∀ (cs : List Ce) (k : Nat), (inIx st cs k).length ≤ cs.length
  | [], _ => Nat.le_refl _
  | c :: cs, k => by
    have := inIx_len st cs (k + 1)
    unfold inIx
    split <;> simp <;> omega
theorem seA_ne {cs : List Ce} (hU : Un cs) {a b : Nat} (ha : a ∈ inIx 1 cs 0) (hb : b ∈ inIx 1 cs 0) (h : a ≠ b) : seA cs a ≠ seA cs b := by
  obtain ⟨_, c, hc, hcs⟩ := inIx_mem.1 ha
  obtain ⟨_, d, hd, hds⟩ := inIx_mem.1 hb
  rw [Nat.sub_zero] at hc hd
  rw [seA_of hc, seA_of hd]
  have h1 : th c = true := by simp [th, hcs]
  have h2 : th d = true := by simp [th, hds]
  rcases Nat.lt_or_ge a b with hlt | hge
  · exact hU b a d c hlt hd hc h2 h1
  · exact fun he => hU a b c d (by omega) hc hd h1 h2 he.symm
theorem liveX_perm (cs : List Ce) : (liveX cs).Perm (inIx 1 cs 0) := List.mergeSort_perm _ _
theorem liveX_of {cs : List Ce} (hU : Un cs) {X : List Nat} (hp : X.Perm (inIx 1 cs 0)) (hs : X.Pairwise fun a b => seA cs a < seA cs b) : X = liveX cs := by
  refine sort_uniq (hp.trans (liveX_perm cs).symm) hs ?_
  have h1 : (liveX cs).Pairwise fun a b => decide (seA cs a ≤ seA cs b) = true := List.pairwise_mergeSort (fun a b c h1 h2 => by simp at *; omega) (fun a b => by simp; omega) _
  have h2 : (liveX cs).Nodup := (liveX_perm cs).symm.nodup ((inIx_nodup 1 cs 0).imp fun h => by omega)
  refine (h1.and h2).imp_of_mem fun {a b} ha hb h => ?_
  have := seA_ne hU ((liveX_perm cs).subset ha) ((liveX_perm cs).subset hb) h.2
  have := h.1
  simp at this
  omega
theorem swap_perm : ∀ (X : List Nat) (j : Nat) (a b : Nat), X[j]? = some a → X[j + 1]? = some b → ((X.set (j + 1) a).set j b).Perm X
  | [], _, _, _, h, _ => by simp at h
  | x :: X, 0, a, b, h1, h2 => by
    cases X with
    | nil => simp at h2
    | cons y Y =>
      simp at h1 h2
      subst h1
      subst h2
      exact .swap _ _ _
  | x :: X, j + 1, a, b, h1, h2 => by
    simp only [List.set_cons_succ]
    exact .cons _ (swap_perm X j a b (by simpa using h1) (by simpa using h2))
/-- All but what stands at k is sorted, up to i. -/
def J (cs : List Ce) (i k : Nat) (X : List Nat) : Prop := ∀ (p q a b : Nat), p < q → q ≤ i → X[p]? = some a → X[q]? = some b → q ≠ k → seA cs a < seA cs b
theorem J.swap {cs : List Ce} {i k : Nat} {X : List Nat} (h : J cs i (k + 1) X) {a b : Nat} (ha : X[k]? = some a) (hb : X[k + 1]? = some b) (hk : k + 1 ≤ i) (hlt : seA cs b < seA cs a) : J cs i k ((X.set (k + 1) a).set k b) := by
  intro p q x y hpq hq hx hy hqk
  have l1 := lt_of_get ha
  have l2 := lt_of_get hb
  rw [List.getElem?_set, List.getElem?_set] at hx hy
  simp only [List.length_set] at hx hy
  rw [if_neg (by omega)] at hy
  by_cases hq1 : k + 1 = q
  · subst hq1
    rw [if_pos rfl, if_pos l2] at hy
    cases hy
    by_cases hp1 : k = p
    · subst hp1
      rw [if_pos rfl, if_pos l1] at hx
      cases hx
      exact hlt
    · rw [if_neg hp1, if_neg (by omega)] at hx
      exact h p k x a (by omega) (by omega) hx ha (by omega)
  · rw [if_neg hq1] at hy
    by_cases hp1 : k = p
    · subst hp1
      rw [if_pos rfl, if_pos l1] at hx
      cases hx
      exact h (k + 1) q b y (by omega) hq hb hy (by omega)
    · rw [if_neg hp1] at hx
      by_cases hp2 : k + 1 = p
      · subst hp2
        rw [if_pos rfl, if_pos l2] at hx
        cases hx
        exact h k q a y (by omega) hq ha hy (by omega)
      · rw [if_neg hp2] at hx
        exact h p q x y hpq hq hx hy (by omega)
theorem J.done {cs : List Ce} {i k : Nat} {X : List Nat} (h : J cs i k X) (hk : k = 0 ∨ ∃ (j a b : Nat), k = j + 1 ∧ X[j]? = some a ∧ X[k]? = some b ∧ seA cs a < seA cs b) : ∀ (p q a b : Nat), p < q → q ≤ i → X[p]? = some a → X[q]? = some b → seA cs a < seA cs b := by
  intro p q x y hpq hq hx hy
  by_cases hqk : q = k
  · rcases hk with rfl | ⟨j, a, b, rfl, ha, hb, hlt⟩
    · omega
    · subst hqk
      rw [hb] at hy
      cases hy
      by_cases hpj : p = j
      · subst hpj
        rw [ha] at hx
        cases hx
        exact hlt
      · have := h p j x a (by omega) (by omega) hx ha (by omega)
        omega
  · exact h p q x y hpq hq hx hy hqk
theorem hd_of {cs : List Ce} {i : Nat} {c : Ce} (h : cs[i]? = some c) : hd cs i = pk i c.gn := by rw [hd, gAt_of h]
theorem find_live {cs : List Ce} (hR : Rs cs) {i : Nat} (hi : i ∈ inIx 1 cs 0) : ∃ c, cs[i]? = some c ∧ c.st = 1 ∧ findH cs (hd cs i) = some i := by
  obtain ⟨_, c, hc, hcs⟩ := inIx_mem.1 hi
  rw [Nat.sub_zero] at hc
  exact ⟨c, hc, hcs, findH_of hR hc (.inl hcs) (hd_of hc).symm⟩
theorem row_get {cs : List Ce} {X : List Nat} {i a : Nat} (h : X[i]? = some a) : (rI (X.map (hd cs)))[i]? = some [eI (hd cs a)] := by
  simp [rI, h]
theorem row_set {cs : List Ce} {X : List Nat} {i a : Nat} : (rI (X.map (hd cs))).set i [eI (hd cs a)] = rI ((X.set i a).map (hd cs)) := by
  simp [rI, List.map_set]
set_option maxRecDepth 100000 in
theorem c_sorted (cs : List Ce) (la sr : Int) (hR : Rs cs) (hU : Un cs) : C Tryz.prog 44 [tS cs la sr, encI ((inIx 1 cs 0).map (hd cs))] (encI (liveL cs)) := by
  refine fnOk mixed tyOk Tryz.func44 (code := Tryz.f44.body.getD .skip) rfl rfl rfl (gC_in ?_)
  have hT : cs.length ≤ 1000000 := Nat.le_trans hR.hl (by decide)
  have hp := c_plain ⟨cs, la, sr⟩ hT
  have hf : ∀ i, i ∈ inIx 1 cs 0 → C Tryz.prog 75 [tP cs la, eI (hd cs i)] (.tup [eI (i : Int), eI 0]) := fun i hi => by
    have := c_rfind cs la (hd cs i) hR
    obtain ⟨c, hc, hcs, he⟩ := find_live hR (i := i) hi
    rw [rFind, he] at this
    exact this
  have hlen : (inIx 1 cs 0).length ≤ 24 := Nat.le_trans (inIx_len 1 cs 0) hR.hl
  have hrow : (inIx 1 cs 0).map (fun i => [eI (hd cs i)]) = rI ((inIx 1 cs 0).map (hd cs)) := by simp [rI]
  repeat (first | (refine oR ?_; (conv => whnf)) | refine kOps ?_ | refine oNil ?_ | refine sSeq ?_ | refine sR ?_ | refine qSeqN ?_)
  refine ⟨?_, ?_, ?_⟩
  · intro y hy
    obtain ⟨n, _, rfl⟩ := List.mem_map.1 hy
    exact ⟨rfl, rfl⟩
  · exact roomI (by simp; omega)
  repeat (first | (refine oR ?_; (conv => whnf)) | refine kOps ?_ | refine oNil ?_ | refine sSeq ?_ | refine sR ?_ | refine qSeqN ?_ | refine sBlk ?_)
  refine sLoop (α := Nat × List Nat) (fun a => 1 ≤ a.1 ∧ a.1 ≤ (inIx 1 cs 0).length + 1 ∧ a.2.Perm (inIx 1 cs 0) ∧ ∀ (p q x y : Nat), p < q → q < a.1 → a.2[p]? = some x → a.2[q]? = some y → seA cs x < seA cs y) (fun a => ⟨tl [(2, .ptr 0 0 0), (5, .rowf 1), (6, eI (a.1 : Int))], Ll [(0, .box 34 [encC cs, eI la, eI sr]), (1, .rows 3 1 (rI (a.2.map (hd cs))))], 89, 2, [], none⟩) (fun a => (inIx 1 cs 0).length + 2 - a.1) (1, inIx 1 cs 0) .kp ⟨Nat.le_refl 1, by simp, .refl _, fun p q x y h1 h2 => by simp at h2; omega⟩ fun a hi => ?_
  obtain ⟨i, X⟩ := a
  obtain ⟨hi1, hi2, hX, hS⟩ := hi
  simp only at hi1 hi2 hX hS
  have hXl := hX.length_eq
  repeat (first | (refine oR ?_; (conv => whnf)) | refine kOps ?_ | refine oNil ?_ | refine sSeq ?_ | refine sR ?_ | refine qSeqN ?_)
  refine sC rfl (fun h1 => ?_) (fun h1 => ?_)
  rotate_left
  · have hge : X.length ≤ i := by have := dF h1; simpa [rI] using this
    have e : X = liveX cs := liveX_of hU hX (by
      rw [List.pairwise_iff_getElem]
      intro p q hp hq hpq
      exact hS p q _ _ hpq (by omega) (List.getElem?_eq_getElem hp) (List.getElem?_eq_getElem hq))
    repeat (first | (refine oR ?_; (conv => whnf)) | refine kOps ?_ | refine oNil ?_ | refine sSeq ?_ | refine sR ?_ | refine qSeqN ?_ | refine sRet ?_ | refine sExit ?_ | refine qSeqE ?_ | refine qX ?_ | refine qLoopE ?_)
    refine qEnd ?_
    conv => whnf
    rw [e]
    rfl
  have hlt : i < X.length := by have := dT h1; simpa [rI] using this
  repeat (first | (refine oR ?_; (conv => whnf)) | refine kOps ?_ | refine oNil ?_ | refine sSeq ?_ | refine sR ?_ | refine qSeqN ?_ | refine sSkip ?_ | refine sBlk ?_)
  refine sLoop (α := Nat × List Nat) (fun b => b.1 ≤ i ∧ b.2.Perm (inIx 1 cs 0) ∧ J cs i b.1 b.2) (fun b => ⟨tl [(2, .ptr 0 0 0), (5, .rowf 1), (6, eI (i : Int)), (7, eI (b.1 : Int))], Ll [(0, .box 34 [encC cs, eI la, eI sr]), (1, .rows 3 1 (rI (b.2.map (hd cs))))], 89, 2, [], none⟩) (fun b => b.1) (i, X) .kp ⟨Nat.le_refl _, hX, fun p q a b h2 h3 ha hb h4 => hS p q a b h2 (by simp at h4; omega) ha hb⟩ fun b hj => ?_
  obtain ⟨k, Y⟩ := b
  obtain ⟨hk, hY, hJ⟩ := hj
  simp only at hk hY hJ
  have hYl := hY.length_eq
  have hbig : Y.length + 1 ≤ 1099511627776 := by omega
  have hfin : (∀ (p q x y : Nat), p < q → q ≤ i → Y[p]? = some x → Y[q]? = some y → seA cs x < seA cs y) → (1 ≤ i + 1 ∧ i + 1 ≤ (inIx 1 cs 0).length + 1 ∧ Y.Perm (inIx 1 cs 0) ∧ ∀ (p q x y : Nat), p < q → q < i + 1 → Y[p]? = some x → Y[q]? = some y → seA cs x < seA cs y) := fun h => ⟨by omega, by omega, hY, fun p q x y h1 h2 => h p q x y h1 (by omega)⟩
  have hiY : i < Y.length + 1 := by omega
  repeat (first | (refine oR ?_; (conv => whnf)) | refine kOps ?_ | refine oNil ?_ | refine sSeq ?_ | refine sR ?_ | refine qSeqN ?_)
  refine sC rfl (fun h2 => ?_) (fun h2 => ?_)
  rotate_left
  · have h2 : k = 0 := by have := dF h2; omega
    repeat (first | (refine oR ?_; (conv => whnf)) | refine kOps ?_ | refine oNil ?_ | refine sR ?_ | refine qSeqN ?_ | refine sExit ?_ | refine qSeqE ?_ | refine qBlkN ?_ | refine qX ?_ | refine qLoopE ?_)
    exact qLoopN (i + 1, Y) .kp (hfin (hJ.done (.inl h2))) (by simp; omega)
  have h2 : 0 < k := by have := dT h2; omega
  obtain ⟨j, rfl⟩ : ∃ j, k = j + 1 := ⟨k - 1, by omega⟩
  have hwj : IntKind.i64.wrap (((j + 1 : Nat) : Int) - 1) = (j : Int) := by rw [wrapI (by omega) (by omega)]; omega
  obtain ⟨a, ha⟩ : ∃ a, Y[j]? = some a := ⟨_, List.getElem?_eq_getElem (by omega)⟩
  obtain ⟨b, hb⟩ : ∃ b, Y[j + 1]? = some b := ⟨_, List.getElem?_eq_getElem (by omega)⟩
  have ham := hY.subset (List.mem_of_getElem? ha)
  have hbm := hY.subset (List.mem_of_getElem? hb)
  obtain ⟨ca, hca, _, _⟩ := find_live hR ham
  obtain ⟨cb, hcb, _, _⟩ := find_live hR hbm
  have hrl : (rI (Y.map (hd cs))).length = Y.length := by simp [rI]
  repeat (first | refine sSeq ?_ | refine qSeqN ?_ | refine sSkip ?_ | refine sBlk ?_ | refine sD ?_ | (apply drRun; exact rfl; exact .inl rfl; (conv => whnf); exact .mk rfl) | (apply drRun; exact rfl; exact .inl rfl; (conv => whnf)))
  (refine ⟨.fz [] _, rfl, hp, ?_⟩; (conv => whnf); exact .mk rfl)
  repeat (first | (apply drRun; exact rfl; exact .inl rfl; (conv => whnf); exact .mk rfl) | (apply drRun; exact rfl; exact .inl rfl; (conv => whnf)))
  refine ⟨j, hwj, by rw [hrl]; omega, ?_⟩
  exact .mk rfl
  repeat (apply drRun; exact rfl; exact .inl rfl; (conv => whnf))
  refine ⟨_, row_get ha, ?_⟩
  conv => whnf
  exact .mk rfl
  repeat (apply drRun; exact rfl; exact .inl rfl; (conv => whnf))
  (refine ⟨.fz [] _, rfl, hf a ham, ?_⟩; (conv => whnf); exact .mk rfl)
  repeat (first | refine sSeq ?_ | refine qSeqN ?_ | refine sD ?_ | (apply drRun; exact rfl; exact .inl rfl; (conv => whnf); exact .mk rfl) | (apply drRun; exact rfl; exact .inl rfl; (conv => whnf)) | refine drNil ?_)
  (refine ⟨.fz [] _, rfl, hp, ?_⟩; (conv => whnf); exact .mk rfl)
  repeat (first | (apply drRun; exact rfl; exact .inl rfl; (conv => whnf); exact .mk rfl) | (apply drRun; exact rfl; exact .inl rfl; (conv => whnf)))
  refine ⟨j + 1, rfl, by rw [hrl]; omega, ?_⟩
  exact .mk rfl
  repeat (apply drRun; exact rfl; exact .inl rfl; (conv => whnf))
  refine ⟨_, row_get hb, ?_⟩
  conv => whnf
  exact .mk rfl
  repeat (apply drRun; exact rfl; exact .inl rfl; (conv => whnf))
  (refine ⟨.fz [] _, rfl, hf b hbm, ?_⟩; (conv => whnf); exact .mk rfl)
  repeat (first | refine sSeq ?_ | refine qSeqN ?_ | (refine sBF ?_; (conv => whnf)) | exact KPl.mk rfl | refine sD ?_ | (apply drRun; exact rfl; exact .inl rfl; (conv => whnf); exact .mk rfl) | (apply drRun; exact rfl; exact .inr ⟨_, _, _, rfl, rfl, rfl⟩; (conv => whnf); exact .mk rfl) | (apply drRun; exact rfl; exact .inl rfl; (conv => whnf)) | (apply drRun; exact rfl; exact .inr ⟨_, _, _, rfl, rfl, rfl⟩; (conv => whnf)) | refine drNil ?_)
  refine ⟨a, _, rfl, encC_get hca, ?_⟩
  conv => whnf
  exact .mk rfl
  repeat (first | (apply drRun; exact rfl; exact .inr ⟨_, _, _, rfl, rfl, rfl⟩; (conv => whnf); exact .mk rfl) | (apply drRun; exact rfl; exact .inr ⟨_, _, _, rfl, rfl, rfl⟩; (conv => whnf)))
  refine ⟨b, _, rfl, encC_get hcb, ?_⟩
  conv => whnf
  exact .mk rfl
  repeat (first | refine qSeqN ?_ | (refine sBF ?_; (conv => whnf)) | exact KPl.mk rfl | (apply drRun; exact rfl; exact .inr ⟨_, _, _, rfl, rfl, rfl⟩; (conv => whnf); exact .mk rfl) | (apply drRun; exact rfl; exact .inl rfl; (conv => whnf)) | refine drNil ?_)
  refine sC rfl (fun h5 => ?_) (fun h5 => ?_)
  · have h5 : seA cs a < seA cs b := by
      have hne := seA_ne hU ham hbm (fun he => by
        have hnd : Y.Nodup := hY.symm.nodup ((inIx_nodup 1 cs 0).imp fun h => by omega)
        subst he
        have := (List.getElem?_inj (lt_of_get ha) hnd).1 (ha.trans hb.symm)
        omega)
      have := dT h5
      rw [seA_of hca, seA_of hcb] at hne ⊢
      omega
    repeat (first | (refine oR ?_; (conv => whnf)) | refine kOps ?_ | refine oNil ?_ | refine sR ?_ | refine qSeqN ?_ | refine sExit ?_ | refine qSeqE ?_ | refine qBlkN ?_ | refine qX ?_ | refine qY ?_ | refine qLoopE ?_)
    exact qLoopN (i + 1, Y) .kp (hfin (hJ.done (.inr ⟨j, a, b, rfl, ha, hb, h5⟩))) (by simp; omega)
  have h5 : seA cs b < seA cs a := by
    have := dF h5
    rw [seA_of hca, seA_of hcb]
    omega
  have hwk : ∀ m, m ≤ 24 → m < Y.length → m < (rI (Y.map (hd cs))).length := fun m _ h => by rw [hrl]; exact h
  repeat (first | (refine oR ?_; (conv => whnf)) | refine kOps ?_ | refine sSeq ?_ | refine sR ?_ | refine qSeqN ?_ | refine sSkip ?_)
  refine ⟨j + 1, rfl, by rw [hrl]; omega, ?_⟩
  repeat (first | (refine oR ?_; (conv => whnf)) | refine kOps ?_)
  refine ⟨_, row_get hb, ?_⟩
  conv => whnf
  repeat (first | (refine oR ?_; (conv => whnf)) | refine kOps ?_ | refine oNil ?_ | refine sSeq ?_ | refine sR ?_ | refine qSeqN ?_)
  refine ⟨j, hwj, by rw [hrl]; omega, ?_⟩
  repeat (first | (refine oR ?_; (conv => whnf)) | refine kOps ?_)
  refine ⟨_, row_get ha, ?_⟩
  conv => whnf
  repeat (first | (refine oR ?_; (conv => whnf)) | refine kOps ?_)
  refine ⟨j + 1, rfl, by rw [hrl]; omega, ?_⟩
  repeat (first | (refine oR ?_; (conv => whnf)) | refine kOps ?_)
  refine ⟨_, row_get hb, ?_⟩
  conv => whnf
  repeat (first | (refine oR ?_; (conv => whnf)) | refine kOps ?_ | refine oNil ?_ | refine sR ?_ | refine qSeqN ?_)
  refine ⟨j, hwj, by rw [List.length_set, hrl]; omega, ?_⟩
  repeat (first | (refine oR ?_; (conv => whnf)) | refine kOps ?_)
  refine ⟨[eI (hd cs a)], ?_, ?_⟩
  · show ((rI (Y.map (hd cs))).set (j + 1) [eI (hd cs a)])[j]? = some [eI (hd cs a)]
    rw [List.getElem?_set_ne (by omega)]
    exact row_get ha
  conv => whnf
  repeat (first | (refine oR ?_; (conv => whnf)) | refine kOps ?_ | refine oNil ?_ | refine sR ?_ | refine qSeqN ?_ | refine qBlkN ?_)
  have hrw : ((rI (Y.map (hd cs))).set (j + 1) [eI (hd cs a)]).set j [eI (hd cs b)] = rI (((Y.set (j + 1) a).set j b).map (hd cs)) := by rw [row_set, row_set]
  refine qLoopN (j, (Y.set (j + 1) a).set j b) (.keep _ _ _ _ ⟨rfl, congrArg (Blk.rows 3 1) hrw, trivial⟩ ⟨rfl, rfl, rfl, congrArg eI hwj, trivial⟩ rfl rfl) ⟨by omega, (swap_perm Y j a b ha hb).trans hY, hJ.swap ha hb hk h5⟩ (by simp)
theorem liveX_mem {cs : List Ce} {i : Nat} : i ∈ liveX cs ↔ ∃ c, cs[i]? = some c ∧ c.st = 1 := by
  rw [(liveX_perm cs).mem_iff, inIx_mem]
  simp
set_option maxRecDepth 100000 in
theorem c_rlive (cs : List Ce) (la sr : Int) (hR : Rs cs) (hU : Un cs) : C Tryz.prog 20 [tS cs la sr] (encI (liveL cs)) := by
  refine fnOk mixed tyOk Tryz.func20 (code := Tryz.f20.body.getD .skip) rfl rfl rfl (gC_in ?_)
  have hT : cs.length ≤ 1000000 := Nat.le_trans hR.hl (by decide)
  have hT2 : cs.length ≤ 1099511627776 := Nat.le_trans hT (by decide)
  repeat (first | (refine oR ?_; (conv => whnf)) | refine kOps ?_ | refine oNil ?_ | refine sSeq ?_ | refine sR ?_ | refine qSeqN ?_ | refine sBlk ?_)
  refine sLoop (α := Nat) (fun i => i ≤ cs.length) (fun i => ⟨tl [(1, .ptr 0 0 0), (3, .rowf 1), (4, eI (i : Int))], Ll [(0, .box 34 [encC cs, eI la, eI sr]), (1, .rows 3 1 (rI ((inIx 1 (cs.take i) 0).map (hd cs))))], 34, 2, [], none⟩) (fun i => cs.length - i) 0 .kp (Nat.zero_le _) fun i hi => ?_
  repeat (first | (refine oR ?_; (conv => whnf)) | refine kOps ?_ | refine oNil ?_ | refine sSeq ?_ | refine sR ?_ | refine qSeqN ?_)
  refine sC rfl (fun h1 => ?_) (fun h1 => ?_)
  · have hlt : i < cs.length := by have := dT h1; simpa using this
    obtain ⟨c, hc⟩ : ∃ c, cs[i]? = some c := ⟨_, List.getElem?_eq_getElem hlt⟩
    have hk := inIx_snoc (st := 1) hc
    have hle := inIx_len 1 (cs.take i) 0
    rw [List.length_take] at hle
    obtain ⟨hb, hg⟩ := hR.at hc
    repeat (first | (refine oR ?_; (conv => whnf)) | refine kOps ?_ | refine sSeq ?_ | refine sR ?_ | refine qSeqN ?_ | refine sSkip ?_ | refine sBlk ?_)
    refine ⟨i, _, rfl, encC_get hc, ?_⟩
    conv => whnf
    repeat (first | (refine oR ?_; (conv => whnf)) | refine kOps ?_ | refine oNil ?_ | refine qSeqN ?_)
    refine sC rfl (fun h2 => ?_) (fun h2 => ?_)
    · have h2 : c.st = 1 := by simpa using h2
      rw [if_pos h2] at hk
      have hpk : pkW (i : Int) c.gn = hd cs i := by rw [hd_of hc, pkW, if_neg (by omega)]
      repeat (first | (refine oR ?_; (conv => whnf)) | refine kOps ?_ | refine sR ?_)
      refine ⟨i, _, rfl, encC_get hc, ?_⟩
      conv => whnf
      repeat (first | (refine oR ?_; (conv => whnf)) | refine kOps ?_)
      (refine oCall rfl (.inl rfl) rfl rfl rfl (.fz [] _) rfl ⟨rfl, c_rpack _ _, ?_⟩; (conv => whnf))
      repeat (first | (refine oR ?_; (conv => whnf)) | refine kOps ?_)
      refine ⟨by simp [oneC], roomI (by simp [rI]; omega), ?_⟩
      repeat (first | (refine oR ?_; (conv => whnf)) | refine kOps ?_ | refine oNil ?_ | refine sR ?_ | refine qSeqN ?_ | refine qBlkN ?_)
      exact qLoopN (i + 1) (.keep _ _ _ _ ⟨rfl, congrArg (Blk.rows 3 1) (by rw [hk, hpk]; simp [rI]), trivial⟩ ⟨rfl, rfl, congrArg eI (wrapS hlt hT2), trivial⟩ rfl rfl) hlt (by omega)
    · have h2 : ¬ c.st = 1 := by simpa using h2
      rw [if_neg h2] at hk
      repeat (first | (refine oR ?_; (conv => whnf)) | refine kOps ?_ | refine oNil ?_ | refine sR ?_ | refine qSeqN ?_ | refine sSkip ?_ | refine qBlkN ?_)
      exact qLoopN (i + 1) (.keep _ _ _ _ ⟨rfl, congrArg (Blk.rows 3 1) (by rw [hk]), trivial⟩ ⟨rfl, rfl, congrArg eI (wrapS hlt hT2), trivial⟩ rfl rfl) hlt (by omega)
  · have hge : cs.length ≤ i := by have := dF h1; simpa using this
    rw [List.take_of_length_le hge]
    repeat (first | (refine oR ?_; (conv => whnf)) | refine kOps ?_ | refine sSeq ?_ | refine sR ?_ | refine qSeqN ?_ | refine sExit ?_ | refine qSeqE ?_ | refine qX ?_ | refine qLoopE ?_)
    (refine oCall rfl (.inl rfl) rfl rfl rfl (.fz [1] _) rfl ⟨rfl, c_sorted cs la sr hR hU, ?_⟩; (conv => whnf))
    repeat (first | (refine oR ?_; (conv => whnf)) | refine kOps ?_ | refine oNil ?_ | refine qSeqN ?_ | refine sRet ?_)
    refine qEnd ?_
    conv => whnf
    rfl
end Go.Proofs.YtcmciimogcfakaaGreat

/- The document's reach. -/
set_option linter.unusedVariables false
set_option linter.unusedSimpArgs false
namespace Go.Proofs.YtcmciimogcfakaaGreat
open Go Go.RowKit
open Classical

def stepL (cs : List Ce) (seen : List Int) : List Int := thoseL (liveL cs) (seen ++ seen.flatMap (outL cs)) true
def itrL (cs : List Ce) (l : List Int) : Nat → List Int
  | 0 => thoseL (liveL cs) l true
  | n + 1 => stepL cs (itrL cs l n)
def rFromL (cs : List Ce) (l : List Int) : List Int := itrL cs l (liveL cs).length
theorem liveL_len {cs : List Ce} (hR : Rs cs) : (liveL cs).length ≤ 24 := by
  rw [liveL, List.length_map, (liveX_perm cs).length_eq]
  exact Nat.le_trans (inIx_len 1 cs 0) hR.hl
theorem thoseL_len {all l : List Int} {b : Bool} : (thoseL all l b).length ≤ all.length := List.length_filter_le _ _
theorem itrL_len {cs : List Ce} (hR : Rs cs) (l : List Int) : ∀ n, (itrL cs l n).length ≤ 24
  | 0 => Nat.le_trans thoseL_len (liveL_len hR)
  | n + 1 => Nat.le_trans thoseL_len (liveL_len hR)
theorem outL_len {cs : List Ce} (hR : Rs cs) (h : Int) : (outL cs h).length ≤ 4 := by
  unfold outL
  split
  · rename_i c hc
    exact Nat.le_trans (List.length_filter_le _ _) (hR.fl c (liveC_mem hc))
  · decide
theorem outs_len {cs : List Ce} (hR : Rs cs) : ∀ (l : List Int), (l.flatMap (outL cs)).length ≤ 4 * l.length
  | [] => by simp
  | h :: l => by
    have := outs_len hR l
    have := outL_len hR h
    rw [List.flatMap_cons, List.length_append, List.length_cons]
    omega
theorem flat_snoc {f : Int → List Int} {l : List Int} {i : Nat} {a : Int} (h : l[i]? = some a) : (l.take (i + 1)).flatMap f = (l.take i).flatMap f ++ f a := by
  obtain ⟨h1, rfl⟩ := List.getElem?_eq_some_iff.1 h
  rw [List.take_succ_eq_append_getElem h1, List.flatMap_append]
  simp
theorem ones1 (l : List Int) : ∀ y ∈ l.map (fun n => [eI n]), y.length = 1 ∧ y.all oneC = true := fun y hy => by
  obtain ⟨p, _, rfl⟩ := List.mem_map.1 hy
  exact ⟨rfl, rfl⟩
set_option maxRecDepth 100000 in
theorem c_rfrom (cs : List Ce) (la sr : Int) (l : List Int) (hR : Rs cs) (hU : Un cs) (hl : l.length ≤ 1099511627776) : C Tryz.prog 60 [tS cs la sr, encI l] (encI (rFromL cs l)) := by
  refine fnOk mixed tyOk Tryz.func60 (code := Tryz.f60.body.getD .skip) rfl rfl rfl (gC_in ?_)
  have h24 := liveL_len hR
  have hbig : (liveL cs).length ≤ 1099511627776 := by omega
  repeat (first | (refine oR ?_; (conv => whnf)) | refine kOps ?_ | refine oNil ?_ | refine sSeq ?_ | refine sR ?_ | refine qSeqN ?_)
  (refine oCall rfl (.inl rfl) rfl rfl rfl (.fz [] _) rfl ⟨rfl, c_rlive cs la sr hR hU, ?_⟩; (conv => whnf))
  repeat (first | (refine oR ?_; (conv => whnf)) | refine kOps ?_ | refine oNil ?_ | refine sSeq ?_ | refine sR ?_ | refine qSeqN ?_)
  (refine oCall rfl (.inl rfl) rfl rfl rfl (.fz [] _) rfl ⟨rfl, c_those (liveL cs) l true hbig hl, ?_⟩; (conv => whnf))
  repeat (first | (refine oR ?_; (conv => whnf)) | refine kOps ?_ | refine oNil ?_ | refine sSeq ?_ | refine sR ?_ | refine qSeqN ?_ | refine sBlk ?_)
  refine sLoop (α := Nat) (fun i => i ≤ (liveL cs).length) (fun i => ⟨tl [(2, .ptr 0 0 0), (5, encI (liveL cs)), (6, encI (itrL cs l i)), (7, eI (i : Int))], Ll [(0, .box 34 [encC cs, eI la, eI sr])], 42, 1, [], none⟩) (fun i => (liveL cs).length - i) 0 .kp (Nat.zero_le _) fun i hi => ?_
  have hs24 := itrL_len hR l i
  have hnx : itrL cs l (i + 1) = stepL cs (itrL cs l i) := rfl
  generalize hse : itrL cs l i = seen at hs24 hnx
  repeat (first | (refine oR ?_; (conv => whnf)) | refine kOps ?_ | refine oNil ?_ | refine sSeq ?_ | refine sR ?_ | refine qSeqN ?_)
  refine sC rfl (fun h1 => ?_) (fun h1 => ?_)
  rotate_left
  · have hge : (liveL cs).length ≤ i := by have := dF h1; simpa using this
    have e : i = (liveL cs).length := by omega
    rw [rFromL, ← e, hse]
    repeat (first | (refine oR ?_; (conv => whnf)) | refine kOps ?_ | refine oNil ?_ | refine sSeq ?_ | refine sR ?_ | refine qSeqN ?_ | refine sRet ?_ | refine sExit ?_ | refine qSeqE ?_ | refine qX ?_ | refine qLoopE ?_)
    refine qEnd ?_
    conv => whnf
    rfl
  have hlt : i < (liveL cs).length := by have := dT h1; simpa using this
  repeat (first | (refine oR ?_; (conv => whnf)) | refine kOps ?_ | refine sSeq ?_ | refine sR ?_ | refine qSeqN ?_ | refine sSkip ?_ | refine sBlk ?_)
  refine ⟨ones1 seen, roomI (by simp; omega), ?_⟩
  repeat (first | (refine oR ?_; (conv => whnf)) | refine kOps ?_ | refine oNil ?_ | refine sSeq ?_ | refine sR ?_ | refine qSeqN ?_ | refine sBlk ?_)
  refine sLoop (α := Nat) (fun k => k ≤ seen.length) (fun k => ⟨tl [(2, .ptr 0 0 0), (5, encI (liveL cs)), (6, encI seen), (7, eI (i : Int)), (8, .rowf 1), (9, eI (k : Int))], Ll [(0, .box 34 [encC cs, eI la, eI sr]), (1, .rows 3 1 (rI (seen ++ (seen.take k).flatMap (outL cs))))], 42, 2, [], none⟩) (fun k => seen.length - k) 0 (.kp (hb := ⟨rfl, by simp [rI]; rfl, trivial⟩)) (Nat.zero_le _) fun k hk => ?_
  repeat (first | (refine oR ?_; (conv => whnf)) | refine kOps ?_ | refine oNil ?_ | refine sSeq ?_ | refine sR ?_ | refine qSeqN ?_)
  refine sC rfl (fun h2 => ?_) (fun h2 => ?_)
  · have hkl : k < seen.length := by have := dT h2; simpa using this
    have hsb : seen.length ≤ 1099511627776 := by omega
    obtain ⟨a, ha⟩ : ∃ a, seen[k]? = some a := ⟨_, List.getElem?_eq_getElem hkl⟩
    have hk2 := flat_snoc (f := outL cs) ha
    have hol := outL_len hR a
    have hos := outs_len hR (seen.take k)
    rw [List.length_take] at hos
    repeat (first | refine sSeq ?_ | refine qSeqN ?_ | refine sSkip ?_ | refine sBlk ?_)
    refine sDt [7, 8] ?_
    repeat (first | (apply g3run; exact rfl; exact rfl; exact .inl rfl; (conv => whnf); exact .mk rfl) | (apply g3run; exact rfl; exact rfl; exact .inl rfl; (conv => whnf)))
    refine ⟨k, _, rfl, encI_get ha, ?_⟩
    conv => whnf
    exact .mk rfl
    repeat (first | (apply g3run; exact rfl; exact rfl; exact .inl rfl; (conv => whnf); exact .mk rfl) | (apply g3run; exact rfl; exact rfl; exact .inl rfl; (conv => whnf)))
    (refine ⟨.fz [] _, rfl, c_rout cs la sr a hR, ?_⟩; (conv => whnf); exact .mk rfl)
    repeat (first | refine g3skip ?_ | refine g3nil ?_ | refine kT ?_ | (apply gTrun; exact rfl; exact rfl; exact rfl; (conv => whnf)))
    refine ⟨ones1 (outL cs a), roomI (by simp only [rI, List.length_map, List.length_append]; omega), ?_⟩
    conv => whnf
    repeat (first | (refine oR ?_; (conv => whnf)) | refine kOps ?_ | refine oNil ?_ | refine sR ?_ | refine qSeqN ?_ | refine qBlkN ?_ | (apply gTrun; exact rfl; exact rfl; exact rfl; (conv => whnf); exact .mk rfl) | exact gRnil | refine gTnil ?_ | exact KEq.mk rfl)
    exact qLoopN (k + 1) (.keep _ _ _ _ ⟨rfl, congrArg (Blk.rows 3 1) (by rw [hk2]; simp [rI]), trivial⟩ ⟨rfl, rfl, rfl, rfl, rfl, congrArg eI (wrapS hkl hsb), trivial⟩ rfl rfl) hkl (by omega)
  · have hge : seen.length ≤ k := by have := dF h2; simpa using this
    have hos := outs_len hR seen
    rw [List.take_of_length_le hge]
    repeat (first | (refine oR ?_; (conv => whnf)) | refine kOps ?_ | refine sR ?_ | refine qSeqN ?_ | refine sExit ?_ | refine qSeqE ?_ | refine qX ?_ | refine qLoopE ?_)
    (refine oCall rfl (.inl rfl) rfl rfl rfl (.fz [1] _) rfl ⟨rfl, c_those (liveL cs) (seen ++ seen.flatMap (outL cs)) true hbig (by rw [List.length_append]; omega), ?_⟩; (conv => whnf))
    repeat (first | (refine oR ?_; (conv => whnf)) | refine kOps ?_ | refine oNil ?_ | refine sR ?_ | refine qSeqN ?_ | refine qBlkN ?_)
    refine qLoopN (i + 1) ?_ (show i + 1 ≤ (liveL cs).length from hlt) (by omega)
    simp only [hnx]
    exact .kp
end Go.Proofs.YtcmciimogcfakaaGreat

/- The document's closed sets and rounds. -/
set_option linter.unusedVariables false
set_option linter.unusedSimpArgs false
namespace Go.Proofs.YtcmciimogcfakaaGreat
open Go Go.RowKit
open Classical

def rCl (cs : List Ce) (l : List Int) : Prop := ∀ a ∈ thoseL (liveL cs) l true, ∀ x ∈ thoseL (liveL cs) (outL cs a) true, has l x = true
set_option maxRecDepth 100000 in
theorem c_rclosed (cs : List Ce) (la sr : Int) (l : List Int) (hR : Rs cs) (hU : Un cs) (hl : l.length ≤ 1099511627776) : C Tryz.prog 42 [tS cs la sr, encI l] (.bool (decide (rCl cs l))) := by
  refine fnOk mixed tyOk Tryz.func42 (code := Tryz.f42.body.getD .skip) rfl rfl rfl (gC_in ?_)
  have h24 := liveL_len hR
  have hbig : (liveL cs).length ≤ 1099511627776 := by omega
  repeat (first | (refine oR ?_; (conv => whnf)) | refine kOps ?_ | refine oNil ?_ | refine sSeq ?_ | refine sR ?_ | refine qSeqN ?_)
  (refine oCall rfl (.inl rfl) rfl rfl rfl (.fz [] _) rfl ⟨rfl, c_rlive cs la sr hR hU, ?_⟩; (conv => whnf))
  repeat (first | (refine oR ?_; (conv => whnf)) | refine kOps ?_ | refine oNil ?_ | refine sSeq ?_ | refine sR ?_ | refine qSeqN ?_)
  (refine oCall rfl (.inl rfl) rfl rfl rfl (.fz [] _) rfl ⟨rfl, c_those (liveL cs) l true hbig hl, ?_⟩; (conv => whnf))
  repeat (first | (refine oR ?_; (conv => whnf)) | refine kOps ?_ | refine oNil ?_ | refine sSeq ?_ | refine sR ?_ | refine qSeqN ?_ | refine sBlk ?_)
  have hin24 : (thoseL (liveL cs) l true).length ≤ 24 := Nat.le_trans thoseL_len h24
  generalize hins : thoseL (liveL cs) l true = ins at hin24
  have hib : ins.length ≤ 1099511627776 := by omega
  refine sLoop (α := Nat) (fun i => i ≤ ins.length ∧ ∀ (j : Nat) (a : Int), j < i → ins[j]? = some a → ∀ x ∈ thoseL (liveL cs) (outL cs a) true, has l x = true) (fun i => ⟨tl [(1, encI l), (2, .ptr 0 0 0), (5, encI (liveL cs)), (6, encI ins), (7, eI (i : Int))], Ll [(0, .box 34 [encC cs, eI la, eI sr])], 42, 1, [], none⟩) (fun i => ins.length - i) 0 .kp ⟨Nat.zero_le _, fun j a hj => by omega⟩ fun i hi => ?_
  obtain ⟨hi, hok⟩ := hi
  repeat (first | (refine oR ?_; (conv => whnf)) | refine kOps ?_ | refine oNil ?_ | refine sSeq ?_ | refine sR ?_ | refine qSeqN ?_)
  refine sC rfl (fun h1 => ?_) (fun h1 => ?_)
  rotate_left
  · have hge : ins.length ≤ i := by have := dF h1; simpa using this
    rw [decide_eq_true (show rCl cs l from fun a ha => by
      rw [hins] at ha
      obtain ⟨j, hj⟩ := List.mem_iff_getElem?.1 ha
      exact hok j a (by have := lt_of_get hj; omega) hj)]
    repeat (first | (refine oR ?_; (conv => whnf)) | refine kOps ?_ | refine oNil ?_ | refine sSeq ?_ | refine sR ?_ | refine qSeqN ?_ | refine sRet ?_ | refine sExit ?_ | refine qSeqE ?_ | refine qX ?_ | refine qLoopE ?_)
    refine qEnd ?_
    conv => whnf
    rfl
  have hlt : i < ins.length := by have := dT h1; simpa using this
  obtain ⟨a, ha⟩ : ∃ a, ins[i]? = some a := ⟨_, List.getElem?_eq_getElem hlt⟩
  have hol := outL_len hR a
  repeat (first | refine sSeq ?_ | refine qSeqN ?_ | refine sSkip ?_ | refine sBlk ?_ | refine sD ?_ | (apply drRun; exact rfl; exact .inl rfl; (conv => whnf); exact .mk rfl) | (apply drRun; exact rfl; exact .inl rfl; (conv => whnf)))
  refine ⟨i, _, rfl, encI_get ha, ?_⟩
  conv => whnf
  exact .mk rfl
  repeat (first | (apply drRun; exact rfl; exact .inl rfl; (conv => whnf); exact .mk rfl) | (apply drRun; exact rfl; exact .inl rfl; (conv => whnf)))
  (refine ⟨.fz [] _, rfl, c_rout cs la sr a hR, ?_⟩; (conv => whnf); exact .mk rfl)
  repeat (apply drRun; exact rfl; exact .inl rfl; (conv => whnf))
  (refine ⟨.fz [] _, rfl, c_those (liveL cs) (outL cs a) true hbig (by omega), ?_⟩; (conv => whnf); exact .mk rfl)
  repeat (first | (refine oR ?_; (conv => whnf)) | refine kOps ?_ | refine oNil ?_ | refine sSeq ?_ | refine sR ?_ | refine qSeqN ?_ | refine sBlk ?_ | (apply drRun; exact rfl; exact .inl rfl; (conv => whnf); exact .mk rfl) | refine drNil ?_)
  have hnm24 : (thoseL (liveL cs) (outL cs a) true).length ≤ 24 := Nat.le_trans thoseL_len h24
  generalize hnm : thoseL (liveL cs) (outL cs a) true = nm at hnm24
  have hnb : nm.length ≤ 1099511627776 := by omega
  refine sLoop (α := Nat) (fun k => k ≤ nm.length ∧ ∀ (j : Nat) (x : Int), j < k → nm[j]? = some x → has l x = true) (fun k => ⟨tl [(1, encI l), (2, .ptr 0 0 0), (5, encI (liveL cs)), (6, encI ins), (7, eI (i : Int)), (8, encI nm), (9, eI (k : Int))], Ll [(0, .box 34 [encC cs, eI la, eI sr])], 42, 1, [], none⟩) (fun k => nm.length - k) 0 .kp ⟨Nat.zero_le _, fun j x hj => by omega⟩ fun k hk => ?_
  obtain ⟨hk, hko⟩ := hk
  repeat (first | (refine oR ?_; (conv => whnf)) | refine kOps ?_ | refine oNil ?_ | refine sSeq ?_ | refine sR ?_ | refine qSeqN ?_)
  refine sC rfl (fun h2 => ?_) (fun h2 => ?_)
  rotate_left
  · have hge : nm.length ≤ k := by have := dF h2; simpa using this
    repeat (first | (refine oR ?_; (conv => whnf)) | refine kOps ?_ | refine oNil ?_ | refine sR ?_ | refine qSeqN ?_ | refine sExit ?_ | refine qSeqE ?_ | refine qBlkN ?_ | refine qX ?_ | refine qLoopE ?_)
    refine qLoopN (i + 1) .kp ⟨hlt, fun j b hj hb x hx => ?_⟩ (by omega)
    rcases (show j < i ∨ j = i by omega) with hj | rfl
    · exact hok j b hj hb x hx
    · rw [ha] at hb
      cases hb
      rw [hnm] at hx
      obtain ⟨m, hm⟩ := List.mem_iff_getElem?.1 hx
      exact hko m x (by have := lt_of_get hm; omega) hm
  have hkl : k < nm.length := by have := dT h2; simpa using this
  obtain ⟨y, hy⟩ : ∃ y, nm[k]? = some y := ⟨_, List.getElem?_eq_getElem hkl⟩
  repeat (first | (refine oR ?_; (conv => whnf)) | refine kOps ?_ | refine sSeq ?_ | refine sR ?_ | refine qSeqN ?_ | refine sSkip ?_ | refine sBlk ?_)
  refine ⟨k, _, rfl, encI_get hy, ?_⟩
  conv => whnf
  repeat (first | (refine oR ?_; (conv => whnf)) | refine kOps ?_)
  (refine oCall rfl (.inl rfl) rfl rfl rfl (.fz [] _) rfl ⟨rfl, c_has l y hl, ?_⟩; (conv => whnf))
  repeat (first | (refine oR ?_; (conv => whnf)) | refine kOps ?_ | refine oNil ?_ | refine qSeqN ?_)
  refine sC rfl (fun h3 => ?_) (fun h3 => ?_)
  · have h3 : has l y = false := by simpa using h3
    rw [decide_eq_false (fun h : rCl cs l => by
      have := h a (by rw [hins]; exact List.mem_of_getElem? ha) y (by rw [hnm]; exact List.mem_of_getElem? hy)
      rw [h3] at this
      cases this)]
    repeat (first | (refine oR ?_; (conv => whnf)) | refine kOps ?_ | refine oNil ?_ | refine sSeq ?_ | refine sR ?_ | refine qSeqN ?_ | refine sRet ?_ | refine qSeqR ?_ | refine qBlkR ?_ | refine qLoopR ?_)
    refine qEnd ?_
    conv => whnf
    rfl
  · have h3 : has l y = true := by simpa using h3
    repeat (first | (refine oR ?_; (conv => whnf)) | refine kOps ?_ | refine oNil ?_ | refine sR ?_ | refine qSeqN ?_ | refine sSkip ?_ | refine qBlkN ?_)
    refine qLoopN (k + 1) .kp ⟨hkl, fun j x hj hx => ?_⟩ (by omega)
    rcases (show j < k ∨ j = k by omega) with hj | rfl
    · exact hko j x hj hx
    · rw [hy] at hx
      cases hx
      exact h3
theorem c_rlives (cs : List Ce) (la sr h : Int) (hR : Rs cs) : C Tryz.prog 72 [tS cs la sr, eI h] (.bool (lv cs h)) := by
  refine fnOk mixed tyOk Tryz.func72 (code := Tryz.f72.body.getD .skip) rfl rfl rfl (gC_in ?_)
  have hg := c_rget6 cs la sr h hR
  unfold lv
  rcases rGet_cases cs h with ⟨c, hl, hr⟩ | ⟨hl, e, he, hr⟩
  · rw [hr] at hg
    rw [hl]
    repeat (first | (refine oR ?_; (conv => whnf)) | refine kOps ?_ | refine oNil ?_ | refine sSeq ?_ | refine sR ?_ | refine qSeqN ?_)
    (refine oCall rfl (.inl rfl) rfl rfl rfl (.fz [] _) rfl ⟨rfl, hg, ?_⟩; (conv => whnf))
    repeat (first | (refine oR ?_; (conv => whnf)) | refine kOps ?_ | refine oNil ?_ | refine sSeq ?_ | refine sR ?_ | refine qSeqN ?_ | refine sRet ?_)
    refine qEnd ?_
    conv => whnf
    rfl
  · rw [hr] at hg
    rw [hl]
    repeat (first | (refine oR ?_; (conv => whnf)) | refine kOps ?_ | refine oNil ?_ | refine sSeq ?_ | refine sR ?_ | refine qSeqN ?_)
    (refine oCall rfl (.inl rfl) rfl rfl rfl (.fz [] _) rfl ⟨rfl, hg, ?_⟩; (conv => whnf))
    repeat (first | (refine oR ?_; (conv => whnf)) | refine kOps ?_ | refine oNil ?_ | refine sSeq ?_ | refine sR ?_ | refine qSeqN ?_ | refine sRet ?_)
    refine qEnd ?_
    conv => whnf
    exact congrArg AV.bool (by simp [he])
def heldP (cs : List Ce) (l : List Int) (q : Pr) : Bool := lv cs q.1 && has l q.1 && lv cs q.2
def heldL (cs : List Ce) (T : List Pl) (l : List Int) : List Int := ((pairsL T).filter (heldP cs l)).map (·.2)
theorem c_held (cs : List Ce) (la sr : Int) (T : List Pl) (l : List Int) (hR : Rs cs) (hT : Rt T) (hl : l.length ≤ 1099511627776) : C Tryz.prog 41 [tS cs la sr, encT T, encI l] (encI (heldL cs T l)) := by
  refine fnOk mixed tyOk Tryz.func41 (code := Tryz.f41.body.getD .skip) rfl rfl rfl (gC_in ?_)
  have hpl := Nat.le_trans (pairsL_le T) hT.hT
  repeat (first | (refine oR ?_; (conv => whnf)) | refine kOps ?_ | refine oNil ?_ | refine sSeq ?_ | refine sR ?_ | refine qSeqN ?_)
  (refine oCall rfl (.inl rfl) rfl rfl rfl (.fz [] _) rfl ⟨rfl, c_pairs11 T hT, ?_⟩; (conv => whnf))
  repeat (first | (refine oR ?_; (conv => whnf)) | refine kOps ?_ | refine oNil ?_ | refine sSeq ?_ | refine sR ?_ | refine qSeqN ?_ | refine sBlk ?_)
  unfold heldL
  generalize pairsL T = P at hpl ⊢
  refine sLoop (α := Nat) (fun i => i ≤ P.length) (fun i => ⟨tl [(2, encI l), (3, .ptr 0 0 0), (7, .rowf 1), (8, encQ P), (9, eI (i : Int))], Ll [(0, .box 34 [encC cs, eI la, eI sr]), (1, .rows 3 1 (rI (((P.take i).filter (heldP cs l)).map (·.2))))], 53, 2, [], none⟩) (fun i => P.length - i) 0 .kp (Nat.zero_le _) fun i hi => ?_
  repeat (first | (refine oR ?_; (conv => whnf)) | refine kOps ?_ | refine oNil ?_ | refine sSeq ?_ | refine sR ?_ | refine qSeqN ?_)
  refine sC rfl (fun h1 => ?_) (fun h1 => ?_)
  rotate_left
  · have hge : P.length ≤ i := by have := dF h1; simpa using this
    rw [List.take_of_length_le hge]
    repeat (first | (refine oR ?_; (conv => whnf)) | refine kOps ?_ | refine oNil ?_ | refine sSeq ?_ | refine sR ?_ | refine qSeqN ?_ | refine sRet ?_ | refine sExit ?_ | refine qSeqE ?_ | refine qX ?_ | refine qLoopE ?_)
    refine qEnd ?_
    conv => whnf
    rfl
  have hlt : i < P.length := by have := dT h1; simpa using this
  obtain ⟨q, hq⟩ : ∃ q, P[i]? = some q := ⟨_, List.getElem?_eq_getElem hlt⟩
  have hk := filter_snoc (p := heldP cs l) hq
  have hle := filter_len (heldP cs l) P i
  repeat (first | refine sSeq ?_ | refine qSeqN ?_ | refine sSkip ?_ | refine sBlk ?_ | refine sD ?_ | (apply drRun; exact rfl; exact .inl rfl; (conv => whnf); exact .mk rfl) | (apply drRun; exact rfl; exact .inl rfl; (conv => whnf)))
  refine ⟨i, _, rfl, encP_get hq, ?_⟩
  conv => whnf
  exact .mk rfl
  repeat (first | (apply drRun; exact rfl; exact .inl rfl; (conv => whnf); exact .mk rfl) | (apply drRun; exact rfl; exact .inl rfl; (conv => whnf)))
  (refine ⟨.fz [] _, rfl, c_rlives cs la sr q.1 hR, ?_⟩; (conv => whnf); exact .mk rfl)
  repeat (apply drRun; exact rfl; exact .inl rfl; (conv => whnf); exact .mk rfl)
  refine drS rfl rfl rfl (fun h2 => ?_) (fun h2 => ?_)
  · repeat (first | (apply drRun; exact rfl; exact .inr ⟨_, _, _, rfl, rfl, rfl⟩; (conv => whnf); exact .mk rfl) | (apply drRun; exact rfl; exact .inr ⟨_, _, _, rfl, rfl, rfl⟩; (conv => whnf)))
    refine ⟨i, _, rfl, encP_get hq, ?_⟩
    conv => whnf
    exact .mk rfl
    repeat (first | (apply drRun; exact rfl; exact .inr ⟨_, _, _, rfl, rfl, rfl⟩; (conv => whnf); exact .mk rfl) | (apply drRun; exact rfl; exact .inr ⟨_, _, _, rfl, rfl, rfl⟩; (conv => whnf)))
    (refine ⟨.fz [] _, rfl, c_has l q.1 hl, ?_⟩; (conv => whnf); exact .mk rfl)
    repeat (first | (refine sBT ?_; (conv => whnf)) | exact KPl.mk rfl | (apply drRun; exact rfl; exact .inl rfl; (conv => whnf); exact .mk rfl) | (apply drRun; exact rfl; exact .inl rfl; (conv => whnf)))
    refine drS rfl rfl rfl (fun h3 => ?_) (fun h3 => ?_)
    · repeat (first | (apply drRun; exact rfl; exact .inr ⟨_, _, _, rfl, rfl, rfl⟩; (conv => whnf); exact .mk rfl) | (apply drRun; exact rfl; exact .inr ⟨_, _, _, rfl, rfl, rfl⟩; (conv => whnf)))
      refine ⟨i, _, rfl, encP_get hq, ?_⟩
      conv => whnf
      exact .mk rfl
      repeat (first | (apply drRun; exact rfl; exact .inr ⟨_, _, _, rfl, rfl, rfl⟩; (conv => whnf); exact .mk rfl) | (apply drRun; exact rfl; exact .inr ⟨_, _, _, rfl, rfl, rfl⟩; (conv => whnf)))
      (refine ⟨.fz [] _, rfl, c_rlives cs la sr q.2 hR, ?_⟩; (conv => whnf); exact .mk rfl)
      repeat (first | refine qSeqN ?_ | (refine sBT ?_; (conv => whnf)) | exact KPl.mk rfl | (apply drRun; exact rfl; exact .inl rfl; (conv => whnf)) | refine drNil ?_)
      refine sC rfl (fun h4 => ?_) (fun h4 => ?_)
      · rw [if_pos (by rw [heldP, h2, h3, h4]; rfl)] at hk
        repeat (first | (refine oR ?_; (conv => whnf)) | refine kOps ?_ | refine sR ?_)
        refine ⟨i, _, rfl, encP_get hq, ?_⟩
        conv => whnf
        repeat (first | (refine oR ?_; (conv => whnf)) | refine kOps ?_)
        refine ⟨by simp [oneC], roomI (by simp [rI]; omega), ?_⟩
        repeat (first | (refine oR ?_; (conv => whnf)) | refine kOps ?_ | refine oNil ?_ | refine sR ?_ | refine qSeqN ?_ | refine qBlkN ?_)
        exact qLoopN (i + 1) (.keep _ _ _ _ ⟨rfl, congrArg (Blk.rows 3 1) (by rw [hk]; simp [rI]), trivial⟩ ⟨rfl, rfl, rfl, rfl, congrArg eI (wrapS hlt hpl), trivial⟩ rfl rfl) hlt (by omega)
      · rw [if_neg (by simp [heldP, h2, h3, h4])] at hk
        repeat (first | (refine oR ?_; (conv => whnf)) | refine kOps ?_ | refine oNil ?_ | refine sR ?_ | refine qSeqN ?_ | refine sSkip ?_ | refine qBlkN ?_)
        exact qLoopN (i + 1) (.keep _ _ _ _ ⟨rfl, congrArg (Blk.rows 3 1) (by rw [hk]), trivial⟩ ⟨rfl, rfl, rfl, rfl, congrArg eI (wrapS hlt hpl), trivial⟩ rfl rfl) hlt (by omega)
    · rw [if_neg (by simp [heldP, h2, h3])] at hk
      repeat (first | (refine oR ?_; (conv => whnf)) | refine kOps ?_ | refine oNil ?_ | refine sR ?_ | refine qSeqN ?_ | refine sSkip ?_ | refine sF ?_ | refine qBlkN ?_ | (refine sBF ?_; (conv => whnf)) | exact KPl.mk rfl | refine dH ?_ | (apply drRun; exact rfl; exact .inl rfl; (conv => whnf)) | refine drNil ?_)
      exact qLoopN (i + 1) (.keep _ _ _ _ ⟨rfl, congrArg (Blk.rows 3 1) (by rw [hk]), trivial⟩ ⟨rfl, rfl, rfl, rfl, congrArg eI (wrapS hlt hpl), trivial⟩ rfl rfl) hlt (by omega)
  · rw [if_neg (by simp [heldP, h2])] at hk
    repeat (first | (refine oR ?_; (conv => whnf)) | refine kOps ?_ | refine oNil ?_ | refine sR ?_ | refine qSeqN ?_ | refine sSkip ?_ | refine sF ?_ | refine qBlkN ?_ | (refine sBF ?_; (conv => whnf)) | exact KPl.mk rfl | (apply drRun; exact rfl; exact .inl rfl; (conv => whnf); exact .mk rfl) | refine dH ?_ | (apply drRun; exact rfl; exact .inl rfl; (conv => whnf)) | refine drNil ?_)
    exact qLoopN (i + 1) (.keep _ _ _ _ ⟨rfl, congrArg (Blk.rows 3 1) (by rw [hk]), trivial⟩ ⟨rfl, rfl, rfl, rfl, congrArg eI (wrapS hlt hpl), trivial⟩ rfl rfl) hlt (by omega)
end Go.Proofs.YtcmciimogcfakaaGreat

/- The document's rounds. -/
set_option linter.unusedVariables false
set_option linter.unusedSimpArgs false
namespace Go.Proofs.YtcmciimogcfakaaGreat
open Go Go.RowKit
open Classical

def nthR (cs : List Ce) (T : List Pl) (l : List Int) : Nat → List Int
  | 0 => rFromL cs l
  | n + 1 => rFromL cs (nthR cs T l n ++ heldL cs T (nthR cs T l n))
theorem rFromL_len {cs : List Ce} (hR : Rs cs) (l : List Int) : (rFromL cs l).length ≤ 24 := itrL_len hR l _
theorem nthR_len {cs : List Ce} (hR : Rs cs) (T : List Pl) (l : List Int) : ∀ n, (nthR cs T l n).length ≤ 24
  | 0 => rFromL_len hR l
  | n + 1 => rFromL_len hR _
theorem heldL_len (cs : List Ce) (T : List Pl) (l : List Int) : (heldL cs T l).length ≤ T.length := by
  rw [heldL, List.length_map]
  exact Nat.le_trans (List.length_filter_le _ _) (pairsL_le T)
/-- The rounds end at N. -/
structure RN (cs : List Ce) (T : List Pl) (l : List Int) (N : Nat) : Prop where
  lt : N < 30
  ne : ∀ n, n < N → nthR cs T l (n + 1) ≠ nthR cs T l n
  eq : nthR cs T l (N + 1) = nthR cs T l N
set_option maxRecDepth 100000 in
theorem c_rrounds (cs : List Ce) (la sr : Int) (T : List Pl) (l : List Int) (hR : Rs cs) (hU : Un cs) (hT : Rt T) (h8 : T.length ≤ 8) (hl : l.length ≤ 1099511627776) {N : Nat} (hN : RN cs T l N) : C Tryz.prog 33 [tS cs la sr, encT T, encI l] (.tup [encI (nthR cs T l N), eI (N : Int)]) := by
  refine fnOk mixed tyOk Tryz.func33 (code := Tryz.f33.body.getD .skip) rfl rfl rfl (gC_in ?_)
  repeat (first | (refine oR ?_; (conv => whnf)) | refine kOps ?_ | refine oNil ?_ | refine sSeq ?_ | refine sR ?_ | refine qSeqN ?_)
  (refine oCall rfl (.inl rfl) rfl rfl rfl (.fz [] _) rfl ⟨rfl, c_rfrom cs la sr l hR hU hl, ?_⟩; (conv => whnf))
  repeat (first | (refine oR ?_; (conv => whnf)) | refine kOps ?_ | refine oNil ?_ | refine sSeq ?_ | refine sR ?_ | refine qSeqN ?_ | refine sBlk ?_)
  refine sLoop (α := Nat) (fun n => n ≤ N) (fun n => ⟨tl [(1, encT T), (3, .ptr 0 0 0), (8, encI (nthR cs T l n)), (9, eI (n : Int))], Ll [(0, .box 34 [encC cs, eI la, eI sr])], 35, 1, [], none⟩) (fun n => N - n) 0 .kp (Nat.zero_le _) fun n hn => ?_
  have h24 := nthR_len hR T l n
  have hnx : nthR cs T l (n + 1) = rFromL cs (nthR cs T l n ++ heldL cs T (nthR cs T l n)) := rfl
  have hx24 := nthR_len hR T l (n + 1)
  have hne := hN.ne n
  have heq := hN.eq
  have h30 := hN.lt
  generalize hse : nthR cs T l n = out at *
  have hh := heldL_len cs T out
  have hc := c_held cs la sr T out hR hT (by omega)
  generalize heldL cs T out = hel at *
  have hf := c_rfrom cs la sr (out ++ hel) hR hU (by rw [List.length_append]; omega)
  rw [← hnx, encI, List.map_append] at hf
  generalize hse2 : nthR cs T l (n + 1) = nxt at *
  repeat (first | (refine oR ?_; (conv => whnf)) | refine kOps ?_ | refine oNil ?_ | refine sSeq ?_ | refine sR ?_ | refine qSeqN ?_)
  refine sC rfl (fun h1 => ?_) (fun h1 => ?_)
  rotate_left
  · have := dF h1
    omega
  repeat (first | refine sSeq ?_ | refine qSeqN ?_ | refine sSkip ?_ | refine sBlk ?_)
  refine sDt [1, 3, 8, 9, 10] ?_
  repeat (first | refine g3skip ?_ | (apply g3run; exact rfl; exact rfl; exact .inl rfl; (conv => whnf); exact .mk rfl) | (apply g3run; exact rfl; exact rfl; exact .inl rfl; (conv => whnf)))
  (refine ⟨.fz [] _, rfl, hc, ?_⟩; (conv => whnf); exact .mk rfl)
  repeat (first | refine g3skip ?_ | refine g3nil ?_ | refine kT ?_ | (apply gTrun; exact rfl; exact rfl; exact rfl; (conv => whnf); exact .mk rfl) | (apply gRcons; exact rfl; exact rfl; exact rfl; (conv => whnf); exact .mk rfl) | (apply gRcons; exact rfl; exact rfl; exact rfl; (conv => whnf)))
  (refine ⟨.fz [] _, rfl, hc, ?_⟩; (conv => whnf); exact .mk rfl)
  repeat (first | exact gRnil | (apply gTrun; exact rfl; exact rfl; exact rfl; (conv => whnf)))
  refine ⟨ones1 out, roomI (by simp; omega), ?_⟩
  conv => whnf
  repeat (first | (apply gRcons; exact rfl; exact rfl; exact rfl; (conv => whnf); exact .mk rfl) | exact KEq.mk rfl | (apply gRcons; exact rfl; exact rfl; exact rfl; (conv => whnf)))
  (refine ⟨.fz [] _, rfl, hc, ?_⟩; (conv => whnf); exact .mk rfl)
  repeat (first | exact gRnil | (apply gTrun; exact rfl; exact rfl; exact rfl; (conv => whnf)))
  refine ⟨ones1 hel, roomI (by simp; omega), ?_⟩
  conv => whnf
  repeat (first | (apply gRcons; exact rfl; exact rfl; exact rfl; (conv => whnf); exact .mk rfl) | exact gRnil | exact KEq.mk rfl | (apply gTrun; exact rfl; exact rfl; exact rfl; (conv => whnf)))
  (refine ⟨.fz [1] _, rfl, hf, ?_⟩; (conv => whnf); exact .mk rfl)
  repeat (first | (refine oR ?_; (conv => whnf)) | refine kOps ?_ | refine sSeq ?_ | refine sR ?_ | refine qSeqN ?_ | (apply gTrun; exact rfl; exact rfl; exact rfl; (conv => whnf); exact .mk rfl) | exact gRnil | refine gTnil ?_)
  (refine oCall rfl (.inl rfl) rfl rfl rfl (.fz [] _) rfl ⟨rfl, c_ints nxt out (by omega), ?_⟩; (conv => whnf))
  repeat (first | refine kOps ?_ | refine oNil ?_ | refine qSeqN ?_)
  refine sC rfl (fun h2 => ?_) (fun h2 => ?_)
  · have h2 : nxt = out := dT h2
    have e : n = N := by
      rcases Nat.lt_or_ge n N with h | h
      · exact absurd h2 (hne h)
      · omega
    subst e
    rw [hse]
    repeat (first | (refine oR ?_; (conv => whnf)) | refine kOps ?_ | refine oNil ?_ | refine sSeq ?_ | refine sR ?_ | refine qSeqN ?_ | refine sRet ?_ | refine qSeqR ?_ | refine qBlkR ?_ | refine qLoopR ?_)
    refine qEnd ?_
    conv => whnf
    rfl
  · have h2 : ¬ nxt = out := dF h2
    have hlt : n < N := by
      rcases Nat.lt_or_ge n N with h | h
      · exact h
      · have e : n = N := by omega
        subst e
        exact absurd (hse2.symm.trans (heq.trans hse)) h2
    have hNb : N ≤ 1099511627776 := by omega
    repeat (first | (refine oR ?_; (conv => whnf)) | refine kOps ?_ | refine oNil ?_ | refine sR ?_ | refine qSeqN ?_ | refine sSkip ?_ | refine qBlkN ?_)
    refine qLoopN (n + 1) ?_ (show n + 1 ≤ N by omega) (by omega)
    simp only [hse2]
    exact .kp
theorem c_rfrom12 (cs : List Ce) (la sr : Int) (T : List Pl) (l : List Int) (hR : Rs cs) (hU : Un cs) (hT : Rt T) (h8 : T.length ≤ 8) (hl : l.length ≤ 1099511627776) {N : Nat} (hN : RN cs T l N) : C Tryz.prog 13 [tS cs la sr, encT T, encI l] (encI (nthR cs T l N)) := by
  refine fnOk mixed tyOk Tryz.func13 (code := Tryz.f13.body.getD .skip) rfl rfl rfl (gC_in ?_)
  repeat (first | (refine oR ?_; (conv => whnf)) | refine kOps ?_ | refine oNil ?_ | refine sSeq ?_ | refine sR ?_ | refine qSeqN ?_)
  (refine oCall rfl (.inl rfl) rfl rfl rfl (.fz [] _) rfl ⟨rfl, c_rrounds cs la sr T l hR hU hT h8 hl hN, ?_⟩; (conv => whnf))
  repeat (first | (refine oR ?_; (conv => whnf)) | refine kOps ?_ | refine oNil ?_ | refine sSeq ?_ | refine sR ?_ | refine qSeqN ?_ | refine sRet ?_)
  refine qEnd ?_
  conv => whnf
  rfl
theorem c_rrounds12 (cs : List Ce) (la sr : Int) (T : List Pl) (l : List Int) (hR : Rs cs) (hU : Un cs) (hT : Rt T) (h8 : T.length ≤ 8) (hl : l.length ≤ 1099511627776) {N : Nat} (hN : RN cs T l N) : C Tryz.prog 19 [tS cs la sr, encT T, encI l] (eI (N : Int)) := by
  refine fnOk mixed tyOk Tryz.func19 (code := Tryz.f19.body.getD .skip) rfl rfl rfl (gC_in ?_)
  repeat (first | (refine oR ?_; (conv => whnf)) | refine kOps ?_ | refine oNil ?_ | refine sSeq ?_ | refine sR ?_ | refine qSeqN ?_)
  (refine oCall rfl (.inl rfl) rfl rfl rfl (.fz [] _) rfl ⟨rfl, c_rrounds cs la sr T l hR hU hT h8 hl hN, ?_⟩; (conv => whnf))
  repeat (first | (refine oR ?_; (conv => whnf)) | refine kOps ?_ | refine oNil ?_ | refine sSeq ?_ | refine sR ?_ | refine qSeqN ?_ | refine sRet ?_)
  refine qEnd ?_
  conv => whnf
  rfl
def lostL (cs : List Ce) (l : List Int) : List Int := (liveL cs).filter fun a => !has l a
theorem c_rlost (cs : List Ce) (la sr : Int) (T : List Pl) (l : List Int) (hR : Rs cs) (hU : Un cs) (hT : Rt T) (h8 : T.length ≤ 8) (hl : l.length ≤ 1099511627776) {N : Nat} (hN : RN cs T l N) : C Tryz.prog 15 [tS cs la sr, encT T, encI l] (encI (lostL cs (nthR cs T l N))) := by
  refine fnOk mixed tyOk Tryz.func15 (code := Tryz.f15.body.getD .skip) rfl rfl rfl (gC_in ?_)
  have h24 := nthR_len hR T l N
  have hf := c_rfrom12 cs la sr T l hR hU hT h8 hl hN
  generalize nthR cs T l N = ins at h24 hf ⊢
  have hib : ins.length ≤ 1099511627776 := by omega
  have ha24 := liveL_len hR
  have hlv := c_rlive cs la sr hR hU
  unfold lostL
  generalize liveL cs = all at ha24 hlv ⊢
  have hab : all.length ≤ 1099511627776 := by omega
  repeat (first | (refine oR ?_; (conv => whnf)) | refine kOps ?_ | refine oNil ?_ | refine sSeq ?_ | refine sR ?_ | refine qSeqN ?_)
  (refine oCall rfl (.inl rfl) rfl rfl rfl (.fz [] _) rfl ⟨rfl, hf, ?_⟩; (conv => whnf))
  repeat (first | (refine oR ?_; (conv => whnf)) | refine kOps ?_ | refine oNil ?_ | refine sSeq ?_ | refine sR ?_ | refine qSeqN ?_)
  (refine oCall rfl (.inl rfl) rfl rfl rfl (.fz [] _) rfl ⟨rfl, hlv, ?_⟩; (conv => whnf))
  repeat (first | (refine oR ?_; (conv => whnf)) | refine kOps ?_ | refine oNil ?_ | refine sSeq ?_ | refine sR ?_ | refine qSeqN ?_ | refine sBlk ?_)
  refine sLoop (α := Nat) (fun i => i ≤ all.length) (fun i => ⟨tl [(7, encI ins), (8, .rowf 1), (9, encI all), (10, eI (i : Int))], Ll [(1, .rows 3 1 (rI ((all.take i).filter fun a => !has ins a)))], 39, 2, [], none⟩) (fun i => all.length - i) 0 .kp (Nat.zero_le _) fun i hi => ?_
  repeat (first | (refine oR ?_; (conv => whnf)) | refine kOps ?_ | refine oNil ?_ | refine sSeq ?_ | refine sR ?_ | refine qSeqN ?_)
  refine sC rfl (fun h1 => ?_) (fun h1 => ?_)
  rotate_left
  · have hge : all.length ≤ i := by have := dF h1; simpa using this
    rw [List.take_of_length_le hge]
    repeat (first | (refine oR ?_; (conv => whnf)) | refine kOps ?_ | refine oNil ?_ | refine sSeq ?_ | refine sR ?_ | refine qSeqN ?_ | refine sRet ?_ | refine sExit ?_ | refine qSeqE ?_ | refine qX ?_ | refine qLoopE ?_)
    refine qEnd ?_
    conv => whnf
    rfl
  have hlt : i < all.length := by have := dT h1; simpa using this
  obtain ⟨a, ha⟩ : ∃ a, all[i]? = some a := ⟨_, List.getElem?_eq_getElem hlt⟩
  have hk := filter_snoc (p := fun a => !has ins a) ha
  have hle := filter_len (fun a => !has ins a) all i
  repeat (first | (refine oR ?_; (conv => whnf)) | refine kOps ?_ | refine sSeq ?_ | refine sR ?_ | refine qSeqN ?_ | refine sSkip ?_ | refine sBlk ?_)
  refine ⟨i, _, rfl, encI_get ha, ?_⟩
  conv => whnf
  repeat (first | (refine oR ?_; (conv => whnf)) | refine kOps ?_)
  (refine oCall rfl (.inl rfl) rfl rfl rfl (.fz [] _) rfl ⟨rfl, c_has ins a hib, ?_⟩; (conv => whnf))
  repeat (first | (refine oR ?_; (conv => whnf)) | refine kOps ?_ | refine oNil ?_ | refine qSeqN ?_)
  refine sC rfl (fun h2 => ?_) (fun h2 => ?_)
  · rw [if_pos h2] at hk
    repeat (first | (refine oR ?_; (conv => whnf)) | refine kOps ?_ | refine sR ?_)
    refine ⟨i, _, rfl, encI_get ha, ?_⟩
    conv => whnf
    repeat (first | (refine oR ?_; (conv => whnf)) | refine kOps ?_)
    refine ⟨by simp [oneC], roomI (by simp only [rI, List.length_map]; simp; omega), ?_⟩
    repeat (first | (refine oR ?_; (conv => whnf)) | refine kOps ?_ | refine oNil ?_ | refine sR ?_ | refine qSeqN ?_ | refine qBlkN ?_)
    exact qLoopN (i + 1) (.keep _ _ _ _ ⟨congrArg (Blk.rows 3 1) (by rw [hk]; simp [rI]), trivial⟩ ⟨rfl, rfl, rfl, congrArg eI (wrapS hlt hab), trivial⟩ rfl rfl) hlt (by omega)
  · rw [if_neg (by rw [h2]; decide)] at hk
    repeat (first | (refine oR ?_; (conv => whnf)) | refine kOps ?_ | refine oNil ?_ | refine sR ?_ | refine qSeqN ?_ | refine sSkip ?_ | refine qBlkN ?_)
    exact qLoopN (i + 1) (.keep _ _ _ _ ⟨congrArg (Blk.rows 3 1) (by rw [hk]), trivial⟩ ⟨rfl, rfl, rfl, congrArg eI (wrapS hlt hab), trivial⟩ rfl rfl) hlt (by omega)
def rCl12 (cs : List Ce) (T : List Pl) (l : List Int) : Prop := (∀ v ∈ heldL cs T l, has l v = true) ∧ rCl cs l
theorem c_rclosed12 (cs : List Ce) (la sr : Int) (T : List Pl) (l : List Int) (hR : Rs cs) (hU : Un cs) (hT : Rt T) (h8 : T.length ≤ 8) (hl : l.length ≤ 1099511627776) : C Tryz.prog 17 [tS cs la sr, encT T, encI l] (.bool (decide (rCl12 cs T l))) := by
  refine fnOk mixed tyOk Tryz.func17 (code := Tryz.f17.body.getD .skip) rfl rfl rfl (gC_in ?_)
  have hc := c_held cs la sr T l hR hT hl
  have hh := heldL_len cs T l
  have hd := c_rclosed cs la sr l hR hU hl
  repeat (first | (refine oR ?_; (conv => whnf)) | refine kOps ?_ | refine oNil ?_ | refine sSeq ?_ | refine sR ?_ | refine qSeqN ?_)
  (refine oCall rfl (.inl rfl) rfl rfl rfl (.fz [] _) rfl ⟨rfl, hc, ?_⟩; (conv => whnf))
  repeat (first | (refine oR ?_; (conv => whnf)) | refine kOps ?_ | refine oNil ?_ | refine sSeq ?_ | refine sR ?_ | refine qSeqN ?_ | refine sBlk ?_)
  generalize hel : heldL cs T l = vs at hh
  have hib : vs.length ≤ 1099511627776 := by omega
  refine sLoop (α := Nat) (fun i => i ≤ vs.length ∧ ∀ (j : Nat) (a : Int), j < i → vs[j]? = some a → has l a = true) (fun i => ⟨tl [(2, encI l), (3, .ptr 0 0 0), (7, encI vs), (8, eI (i : Int))], Ll [(0, .box 34 [encC cs, eI la, eI sr])], 29, 1, [], none⟩) (fun i => vs.length - i) 0 .kp ⟨Nat.zero_le _, fun j a hj => by omega⟩ fun i hi => ?_
  obtain ⟨hi, hok⟩ := hi
  repeat (first | (refine oR ?_; (conv => whnf)) | refine kOps ?_ | refine oNil ?_ | refine sSeq ?_ | refine sR ?_ | refine qSeqN ?_)
  refine sC rfl (fun h1 => ?_) (fun h1 => ?_)
  rotate_left
  · have hge : vs.length ≤ i := by have := dF h1; simpa using this
    repeat (first | (refine oR ?_; (conv => whnf)) | refine kOps ?_ | refine sSeq ?_ | refine sR ?_ | refine qSeqN ?_ | refine sExit ?_ | refine qSeqE ?_ | refine qX ?_ | refine qLoopE ?_)
    (refine oCall rfl (.inl rfl) rfl rfl rfl (.fz [] _) rfl ⟨rfl, hd, ?_⟩; (conv => whnf))
    repeat (first | (refine oR ?_; (conv => whnf)) | refine kOps ?_ | refine oNil ?_ | refine qSeqN ?_ | refine sRet ?_)
    refine qEnd ?_
    conv => whnf
    refine congrArg AV.bool (decide_eq_decide.2 ⟨fun h => ⟨fun v hv => ?_, h⟩, fun h => h.2⟩)
    rw [hel] at hv
    obtain ⟨j, hj⟩ := List.mem_iff_getElem?.1 hv
    exact hok j v (by have := lt_of_get hj; omega) hj
  have hlt : i < vs.length := by have := dT h1; simpa using this
  obtain ⟨a, ha⟩ : ∃ a, vs[i]? = some a := ⟨_, List.getElem?_eq_getElem hlt⟩
  repeat (first | (refine oR ?_; (conv => whnf)) | refine kOps ?_ | refine sSeq ?_ | refine sR ?_ | refine qSeqN ?_ | refine sSkip ?_ | refine sBlk ?_)
  refine ⟨i, _, rfl, encI_get ha, ?_⟩
  conv => whnf
  repeat (first | (refine oR ?_; (conv => whnf)) | refine kOps ?_)
  (refine oCall rfl (.inl rfl) rfl rfl rfl (.fz [] _) rfl ⟨rfl, c_has l a hl, ?_⟩; (conv => whnf))
  repeat (first | (refine oR ?_; (conv => whnf)) | refine kOps ?_ | refine oNil ?_ | refine qSeqN ?_)
  refine sC rfl (fun h3 => ?_) (fun h3 => ?_)
  · have h3 : has l a = false := by simpa using h3
    rw [decide_eq_false (fun h : rCl12 cs T l => by
      have := h.1 a (by rw [hel]; exact List.mem_of_getElem? ha)
      rw [h3] at this
      cases this)]
    repeat (first | (refine oR ?_; (conv => whnf)) | refine kOps ?_ | refine oNil ?_ | refine sSeq ?_ | refine sR ?_ | refine qSeqN ?_ | refine sRet ?_ | refine qSeqR ?_ | refine qBlkR ?_ | refine qLoopR ?_)
    refine qEnd ?_
    conv => whnf
    rfl
  · have h3 : has l a = true := by simpa using h3
    repeat (first | (refine oR ?_; (conv => whnf)) | refine kOps ?_ | refine oNil ?_ | refine sR ?_ | refine qSeqN ?_ | refine sSkip ?_ | refine qBlkN ?_)
    refine qLoopN (i + 1) .kp ⟨hlt, fun j x hj hx => ?_⟩ (by omega)
    rcases (show j < i ∨ j = i by omega) with hj | rfl
    · exact hok j x hj hx
    · rw [ha] at hx
      cases hx
      exact h3
end Go.Proofs.YtcmciimogcfakaaGreat

/- Names, Out; queues; Contains. -/
set_option linter.unusedVariables false
set_option linter.unusedSimpArgs false
namespace Go.Proofs.YtcmciimogcfakaaGreat
open Go Go.RowKit
open Classical

def nmItems (v : List Int) : List (List AV) := (nmL v).map fun n => [eI n]
theorem c_named (v : List Int) : C Tryz.prog 128 [encI v] (.fn 131 [.vptr [encI v]]) := by
  refine fnOk mixed tyOk Tryz.func128 (code := Tryz.f128.body.getD .skip) rfl rfl rfl (gC_in ?_)
  repeat (first | (refine oR ?_; (conv => whnf)) | refine kOps ?_ | refine oNil ?_ | refine sSeq ?_ | refine sR ?_ | refine qSeqN ?_ | refine sRet ?_)
  refine qEnd ?_
  conv => whnf
  rfl
theorem filter_at {α : Type} {p : α → Bool} {l : List α} {i : Nat} {a : α} (h : l[i]? = some a) (hp : p a = true) : (l.filter p)[((l.take i).filter p).length]? = some a := by
  have e := filter_snoc (p := p) h
  rw [if_pos hp] at e
  have : l.filter p = (l.take (i + 1)).filter p ++ (l.drop (i + 1)).filter p := by rw [← List.filter_append, List.take_append_drop]
  rw [this, e]
  simp
theorem it_named (v : List Int) (hT : v.length ≤ 1099511627776) : IT Tryz.prog 131 [.vptr [encI v]] (nmItems v) := by
  refine itOk mixed tyOk Tryz.func131 (code := Tryz.f131.body.getD .skip) rfl rfl rfl rfl (gC_in ?_)
  have hlen : (v.map fun n => [eI n]).length = v.length := List.length_map _
  repeat (first | (refine oR ?_; (conv => whnf)) | refine kOps ?_ | refine oNil ?_ | refine sSeq ?_ | refine sR ?_ | refine qSeqN ?_ | refine sBlk ?_)
  refine sLoop (α := Nat) (fun i => i ≤ v.length) (fun i => ⟨tl [(0, .yld), (5, encI v), (6, eI v.length), (7, eI (i : Int))], Ll [], 20, 0, [], some (nmL (v.take i)).length⟩) (fun i => v.length - i) 0
    (.keep _ _ _ _ trivial ⟨rfl, rfl, congrArg (fun n : Nat => eI n) hlen, rfl, trivial⟩ rfl rfl) (Nat.zero_le _) fun i hi => ?_
  repeat (first | (refine oR ?_; (conv => whnf)) | refine kOps ?_ | refine oNil ?_ | refine sSeq ?_ | refine sR ?_ | refine qSeqN ?_)
  refine sC rfl (fun h1 => ?_) (fun h1 => ?_)
  · have hlt : i < v.length := by have := dT h1; omega
    obtain ⟨n, hn⟩ : ∃ n, v[i]? = some n := ⟨_, List.getElem?_eq_getElem hlt⟩
    have hk : nmL (v.take (i + 1)) = if (n != 0) = true then nmL (v.take i) ++ [n] else nmL (v.take i) := filter_snoc hn
    repeat (first | (refine oR ?_; (conv => whnf)) | refine sSeq ?_ | refine sR ?_ | refine qSeqN ?_ | refine sSkip ?_ | refine sBlk ?_)
    refine ⟨i, _, rfl, encI_get hn, ?_⟩
    conv => whnf
    repeat (first | (refine oR ?_; (conv => whnf)) | refine kOps ?_ | refine oNil ?_ | refine sSeq ?_ | refine sR ?_ | refine qSeqN ?_)
    refine oS rfl rfl rfl (fun h2 => ?_) (fun h2 => ?_)
    · rw [if_pos h2] at hk
      have hitem : (nmItems v)[(nmL (v.take i)).length]? = some [eI n] := by
        unfold nmItems
        rw [List.getElem?_map, nmL, nmL, filter_at hn h2]; rfl
      have hy : (nmL (v.take (i + 1))).length = (nmL (v.take i)).length + 1 := by rw [hk]; simp
      repeat (first | refine kOps ?_ | (refine oG ?_; (conv => whnf)))
      refine oYield rfl (.inr ⟨_, _, _, rfl, rfl, rfl⟩) rfl rfl rfl («as» := [eI n]) rfl ?_
      refine ⟨_, _, rfl, hitem, rfl, rfl, kY ?_, kY ?_⟩
      · repeat (first | (refine oR ?_; (conv => whnf)) | refine kOps ?_ | (refine oG ?_; (conv => whnf)) | refine oNil ?_ | refine sR ?_ | refine qSeqN ?_ | refine sSkip ?_ | refine sF ?_ | refine qBlkN ?_ | (refine sBT ?_; (conv => whnf)))
        refine qLoopN (i + 1) ?_ (show i + 1 ≤ v.length by omega) (by omega)
        simp only [hy]
        exact .kp
      · repeat (first | (refine oR ?_; (conv => whnf)) | refine kOps ?_ | (refine oG ?_; (conv => whnf)) | refine oNil ?_ | refine qSeqN ?_ | refine sT ?_ | refine sRet ?_ | refine qSeqR ?_ | refine qBlkR ?_ | refine qLoopR ?_ | (refine sBT ?_; (conv => whnf)))
        exact qIt (.inr rfl)
    · rw [if_neg (by simp [h2])] at hk
      repeat (first | (refine oR ?_; (conv => whnf)) | refine kOps ?_ | refine oH ?_ | refine oNil ?_ | refine sR ?_ | refine qSeqN ?_ | refine sSkip ?_ | refine sF ?_ | refine qBlkN ?_ | (refine sBF ?_; (conv => whnf)))
      refine qLoopN (i + 1) ?_ (show i + 1 ≤ v.length by omega) (by omega)
      simp only [hk]
      exact .kp
  · have hge : v.length ≤ i := by have := dF h1; omega
    repeat (first | refine sExit ?_ | refine qSeqE ?_ | refine qX ?_ | refine qLoopE ?_)
    refine qItN (.inl ?_)
    show some (nmL (v.take i)).length = some (nmItems v).length
    rw [List.take_of_length_le hge]
    simp [nmItems]
theorem c_appseq (v : List Int) (hT : v.length ≤ 1099511627776) : C Tryz.prog 130 [.nilsl, .fn 131 [.vptr [encI v]]] (encI (nmL v)) := by
  refine fnOk mixed tyOk Tryz.func130 (code := Tryz.f130.body.getD .skip) rfl rfl rfl (gC_in ?_)
  have hle : (nmL v).length ≤ v.length := List.length_filter_le _ _
  repeat (first | (refine oR ?_; (conv => whnf)) | refine kOps ?_ | refine oNil ?_ | refine sSeq ?_ | refine sR ?_ | refine qSeqN ?_ | refine sBlk ?_)
  refine forIn rfl rfl (it_named v hT) (fun i => ⟨tl [(2, .ptr 0 0 0)], Ll [(0, .box 28 [.rowf 1]), (1, .rows 3 1 (rI ((nmL v).take i)))], 13, 2, [], none⟩) (fun _ => True)
    (.trans (.adoptB 0 1 28 3 1 rfl rfl (by decide)) .kp) trivial (fun i z hi hz => ?_) (fun hn => ?_)
  · obtain ⟨n, hq, rfl⟩ := get_map hz
    have hlt := lt_of_get hq
    refine ⟨rfl, rfl, ?_⟩
    repeat (first | (refine oR ?_; (conv => whnf)) | refine kOps ?_ | refine oNil ?_ | refine sR ?_)
    refine qAs ?_
    repeat (first | (refine oR ?_; (conv => whnf)) | refine kOps ?_ | refine sR ?_ | refine sBlk ?_)
    refine ⟨by simp [oneC], roomI (by simp [rI]; omega), ?_⟩
    repeat (first | (refine oR ?_; (conv => whnf)) | refine kOps ?_ | refine oNil ?_ | refine qBlkN ?_)
    refine qRndN (.keep _ _ _ _ ⟨rfl, congrArg (Blk.rows 3 1) ?_, trivial⟩ ⟨rfl, trivial⟩ rfl rfl) trivial
    obtain ⟨h1, h2⟩ := List.getElem?_eq_some_iff.1 hq
    rw [List.take_succ_eq_append_getElem h1, h2]
    simp [rI]
  · repeat (first | (refine oR ?_; (conv => whnf)) | refine kOps ?_ | refine oNil ?_ | refine sSeq ?_ | refine sR ?_ | refine qSeqN ?_ | refine sRet ?_ | refine qBlkN ?_)
    refine qEnd ?_
    conv => whnf
    rw [List.take_of_length_le (by simp [nmItems])]
    rfl
theorem c_collect (v : List Int) (hT : v.length ≤ 1099511627776) : C Tryz.prog 127 [.fn 131 [.vptr [encI v]]] (encI (nmL v)) := by
  refine fnOk mixed tyOk Tryz.func127 (code := Tryz.f127.body.getD .skip) rfl rfl rfl (gC_in ?_)
  repeat (first | (refine oR ?_; (conv => whnf)) | refine kOps ?_ | refine oNil ?_ | refine sSeq ?_ | refine sR ?_ | refine qSeqN ?_)
  refine oCall rfl (.inl rfl) rfl rfl rfl (.ef [] (encI (nmL v)) []) rfl ⟨⟨rfl, rfl, rfl, rfl⟩, c_appseq v hT, ?_⟩
  conv => whnf
  repeat (first | (refine oR ?_; (conv => whnf)) | refine kOps ?_ | refine oNil ?_ | refine qSeqN ?_ | refine sRet ?_)
  refine qEnd ?_
  conv => whnf
  rfl
theorem c_names (v : List Int) (hT : v.length ≤ 1099511627776) : C Tryz.prog 121 [encI v] (encI (nmL v)) := by
  refine fnOk mixed tyOk Tryz.func121 (code := Tryz.f121.body.getD .skip) rfl rfl rfl (gC_in ?_)
  repeat (first | (refine oR ?_; (conv => whnf)) | refine kOps ?_ | refine oNil ?_ | refine sSeq ?_ | refine sR ?_ | refine qSeqN ?_)
  (refine oCall rfl (.inl rfl) rfl rfl rfl (.fz [] _) rfl ⟨rfl, c_named v, ?_⟩; (conv => whnf))
  repeat refine kOps ?_
  (refine oCall rfl (.inl rfl) rfl rfl rfl (.fz [] _) rfl ⟨rfl, c_collect v hT, ?_⟩; (conv => whnf))
  repeat (first | (refine oR ?_; (conv => whnf)) | refine kOps ?_ | refine oNil ?_ | refine qSeqN ?_ | refine sRet ?_)
  refine qEnd ?_
  conv => whnf
  rfl
theorem c_out (cs : List Ce) (la sr h : Int) (hR : Rs cs) : C Tryz.prog 105 [tS cs la sr, eI h] (encI (outL cs h)) := by
  refine fnOk mixed tyOk Tryz.func105 (code := Tryz.f105.body.getD .skip) rfl rfl rfl (gC_in ?_)
  have hg := c_get6 ⟨cs, la, sr⟩ h hR
  unfold outL
  rcases rGet_cases cs h with ⟨c, hl, hr⟩ | ⟨hl, e, he, hr⟩
  · rw [hr] at hg
    rw [hl]
    repeat (first | (refine oR ?_; (conv => whnf)) | refine kOps ?_ | refine oNil ?_ | refine sSeq ?_ | refine sR ?_ | refine qSeqN ?_)
    (refine oCall rfl (.inl rfl) rfl rfl rfl (.fz [] _) rfl ⟨rfl, hg, ?_⟩; (conv => whnf))
    repeat (first | (refine oR ?_; (conv => whnf)) | refine kOps ?_ | refine oNil ?_ | refine sSeq ?_ | refine sR ?_ | refine qSeqN ?_ | refine sT ?_)
    (refine oCall rfl (.inl rfl) rfl rfl rfl (.fz [] _) rfl ⟨rfl, c_names c.ob.fl (Nat.le_trans (hR.fl c (liveC_mem hl)) (by decide)), ?_⟩; (conv => whnf))
    repeat (first | (refine oR ?_; (conv => whnf)) | refine kOps ?_ | refine oNil ?_ | refine sSeq ?_ | refine sR ?_ | refine qSeqN ?_ | refine sRet ?_)
    refine qEnd ?_
    conv => whnf
    rfl
  · rw [hr] at hg
    rw [hl]
    repeat (first | (refine oR ?_; (conv => whnf)) | refine kOps ?_ | refine oNil ?_ | refine sSeq ?_ | refine sR ?_ | refine qSeqN ?_)
    (refine oCall rfl (.inl rfl) rfl rfl rfl (.fz [] _) rfl ⟨rfl, hg, ?_⟩; (conv => whnf))
    repeat (first | (refine oR ?_; (conv => whnf)) | refine kOps ?_ | refine oNil ?_ | refine sSeq ?_ | refine sR ?_ | refine qSeqN ?_)
    refine sC rfl (fun h1 => ?_) (fun h1 => ?_)
    · simp at h1
      exact absurd h1 he
    · repeat (first | (refine oR ?_; (conv => whnf)) | refine kOps ?_ | refine oNil ?_ | refine sSeq ?_ | refine sR ?_ | refine qSeqN ?_ | refine sSkip ?_ | refine sRet ?_)
      refine qEnd ?_
      conv => whnf
      rfl
/-- A queue. -/
abbrev qA (l : List Int) (cap : Int) : AV := .agg [encI l, eI cap]
theorem c_qnew (cap : Int) : C Tryz.prog 100 [eI cap] (qA [] cap) := by
  refine fnOk mixed tyOk Tryz.func100 (code := Tryz.f100.body.getD .skip) rfl rfl rfl (gC_in ?_)
  repeat (first | (refine oR ?_; (conv => whnf)) | refine kOps ?_ | refine oNil ?_ | refine sSeq ?_ | refine sR ?_ | refine qSeqN ?_ | refine sRet ?_)
  refine qEnd ?_
  conv => whnf
  rfl
theorem c_qlen (l : List Int) (cap : Int) : C Tryz.prog 103 [qA l cap] (eI (l.length : Int)) := by
  refine fnOk mixed tyOk Tryz.func103 (code := Tryz.f103.body.getD .skip) rfl rfl rfl (gC_in ?_)
  repeat (first | (refine oR ?_; (conv => whnf)) | refine kOps ?_ | refine oNil ?_ | refine sSeq ?_ | refine sR ?_ | refine qSeqN ?_ | refine sRet ?_)
  refine qEnd ?_
  conv => whnf
  exact congrArg (fun n : Nat => eI n) (List.length_map _)
theorem c_qwith (l m : List Int) (cap : Int) : C Tryz.prog 119 [qA l cap, encI m] (qA m cap) := by
  refine fnOk mixed tyOk Tryz.func119 (code := Tryz.f119.body.getD .skip) rfl rfl rfl (gC_in ?_)
  repeat (first | (refine oR ?_; (conv => whnf)) | refine kOps ?_ | refine oNil ?_ | refine sSeq ?_ | refine sR ?_ | refine qSeqN ?_ | refine sRet ?_)
  refine qEnd ?_
  conv => whnf
  rfl
end Go.Proofs.YtcmciimogcfakaaGreat

/- Queues; Contains. -/
set_option linter.unusedVariables false
set_option linter.unusedSimpArgs false
namespace Go.Proofs.YtcmciimogcfakaaGreat
open Go Go.RowKit
open Classical

theorem c_push (l : List Int) (cap x : Int) (hl : (l.length : Int) < cap) (hb : l.length ≤ 1099511627776) : C Tryz.prog 102 [qA l cap, eI x] (.tup [qA (l ++ [x]) cap, eI 0]) := by
  refine fnOk mixed tyOk Tryz.func102 (code := Tryz.f102.body.getD .skip) rfl rfl rfl (gC_in ?_)
  have hlen : (l.map fun n => [eI n]).length = l.length := List.length_map _
  have e0 : List.drop 0 (List.take (l.map fun n => [eI n]).length (l.map fun n => [eI n])) = l.map fun n => [eI n] := by rw [List.take_length, List.drop_zero]
  have hw : C Tryz.prog 119 [qA l cap, .sl (List.drop 0 (List.take (l.map fun n => [eI n]).length (l.map fun n => [eI n])) ++ [[eI x]])] (qA (l ++ [x]) cap) := by
    have := c_qwith l (l ++ [x]) cap
    rw [encI, List.map_append] at this
    rw [e0]
    exact this
  repeat (first | (refine oR ?_; (conv => whnf)) | refine kOps ?_ | refine oNil ?_ | refine sSeq ?_ | refine sR ?_ | refine qSeqN ?_)
  refine sC rfl (fun h1 => ?_) (fun h1 => ?_)
  · have := dT h1
    simp at this
    omega
  repeat (first | refine sSeq ?_ | refine qSeqN ?_ | refine sSkip ?_)
  refine sDt [7, 8, 9, 10] ?_
  repeat (first | (apply g3run; exact rfl; exact rfl; exact .inl rfl; (conv => whnf); exact .mk rfl) | (apply g3run; exact rfl; exact rfl; exact .inl rfl; (conv => whnf)))
  refine ⟨fun y hy => (ones1 l y hy).1, _, rfl, Nat.le_refl _, rfl, ?_⟩
  exact .mk rfl
  repeat (first | refine g3skip ?_ | (apply g3run; exact rfl; exact rfl; exact .inl rfl; (conv => whnf); exact .mk rfl) | refine g3nil ?_ | refine kT ?_ | (apply gTrun; exact rfl; exact rfl; exact rfl; (conv => whnf); exact .mk rfl) | (apply gRcons; exact rfl; exact rfl; exact rfl; (conv => whnf); exact .mk rfl) | (apply gRcons; exact rfl; exact rfl; exact rfl; (conv => whnf)))
  refine ⟨fun y hy => (ones1 l y hy).1, _, rfl, Nat.le_refl _, rfl, ?_⟩
  exact .mk rfl
  repeat (first | (apply gRcons; exact rfl; exact rfl; exact rfl; (conv => whnf); exact .mk rfl) | exact gRnil | (apply gTrun; exact rfl; exact rfl; exact rfl; (conv => whnf)))
  refine ⟨?_, roomI ?_, ?_⟩
  · rw [e0]
    intro y hy
    rcases List.mem_append.1 hy with hy | hy
    · exact ones1 l y hy
    · simp at hy
      subst hy
      exact ⟨rfl, rfl⟩
  · rw [e0]
    simp
    omega
  conv => whnf
  repeat (first | (apply gRcons; exact rfl; exact rfl; exact rfl; (conv => whnf); exact .mk rfl) | exact gRnil | exact KEq.mk rfl | (apply gTrun; exact rfl; exact rfl; exact rfl; (conv => whnf)))
  (refine ⟨.fz [3] _, rfl, hw, ?_⟩; (conv => whnf); exact .mk rfl)
  repeat (first | refine qSeqN ?_ | refine sRet ?_ | (apply gTrun; exact rfl; exact rfl; exact rfl; (conv => whnf); exact .mk rfl) | (apply gRcons; exact rfl; exact rfl; exact rfl; (conv => whnf); exact .mk rfl) | exact gRnil | refine gTnil ?_)
  refine qEnd ?_
  conv => whnf
  rfl
theorem c_drain (l : List Int) (cap : Int) : C Tryz.prog 120 [qA l cap, eI 1] (.tup [qA (l.drop 1) cap, encI (l.take 1)]) := by
  refine fnOk mixed tyOk Tryz.func120 (code := Tryz.f120.body.getD .skip) rfl rfl rfl (gC_in ?_)
  have hlen : (l.map fun n => [eI n]).length = l.length := List.length_map _
  have hv : (if (if ((l.map fun n => [eI n]).length : Int) < 1 then ((l.map fun n => [eI n]).length : Int) else 1) > 0 then (if ((l.map fun n => [eI n]).length : Int) < 1 then ((l.map fun n => [eI n]).length : Int) else 1) else 0) = ((min 1 l.length : Nat) : Int) := by
    rw [hlen]
    split <;> split <;> omega
  have hdm : List.drop (min 1 l.length) (List.take (l.map fun n => [eI n]).length (l.map fun n => [eI n])) = (l.drop 1).map fun n => [eI n] := by
    cases l with
    | nil => rfl
    | cons a l => rw [List.take_length]; simp
  have hw : C Tryz.prog 119 [qA l cap, .sl (List.drop (min 1 l.length) (List.take (l.map fun n => [eI n]).length (l.map fun n => [eI n])))] (qA (l.drop 1) cap) := by
    rw [hdm]
    exact c_qwith l (l.drop 1) cap
  repeat (first | (refine oR ?_; (conv => whnf)) | refine kOps ?_ | refine oNil ?_ | refine sSeq ?_ | refine sR ?_ | refine qSeqN ?_)
  refine sDt [10] ?_
  repeat (first | (apply g3run; exact rfl; exact rfl; exact .inl rfl; (conv => whnf); exact .mk rfl) | (apply g3run; exact rfl; exact rfl; exact .inl rfl; (conv => whnf)))
  refine ⟨fun y hy => (ones1 l y hy).1, _, hv, by rw [hlen]; omega, ?_⟩
  exact .mk rfl
  repeat (apply g3run; exact rfl; exact rfl; exact .inl rfl; (conv => whnf))
  (refine ⟨.fz [] _, rfl, hw, ?_⟩; (conv => whnf); exact .mk rfl)
  repeat (first | (apply g3run; exact rfl; exact rfl; exact .inl rfl; (conv => whnf); exact .mk rfl) | (apply g3run; exact rfl; exact rfl; exact .inl rfl; (conv => whnf)))
  refine ⟨fun y hy => (ones1 l y hy).1, _, hv, by rw [hlen]; omega, ?_⟩
  exact .mk rfl
  repeat (first | refine g3skip ?_ | (apply g3run; exact rfl; exact rfl; exact .inl rfl; (conv => whnf); exact .mk rfl) | refine g3nil ?_ | refine kT ?_ | (apply gTrun; exact rfl; exact rfl; exact rfl; (conv => whnf); exact .mk rfl) | (apply gRcons; exact rfl; exact rfl; exact rfl; (conv => whnf); exact .mk rfl) | (apply gRcons; exact rfl; exact rfl; exact rfl; (conv => whnf)))
  refine ⟨fun y hy => (ones1 l y hy).1, _, hv, by rw [hlen]; omega, ?_⟩
  exact .mk rfl
  repeat (first | refine qSeqN ?_ | refine sRet ?_ | (apply gRcons; exact rfl; exact rfl; exact rfl; (conv => whnf); exact .mk rfl) | exact gRnil | refine gTnil ?_)
  refine qEnd ?_
  conv => whnf
  refine congrArg (fun z => AV.tup [qA (l.drop 1) cap, .sl z]) ?_
  cases l with
  | nil => rfl
  | cons a l => simp
theorem c_pop (x : Int) (l : List Int) (cap : Int) : C Tryz.prog 104 [qA (x :: l) cap] (.tup [qA l cap, eI x, eI 0]) := by
  refine fnOk mixed tyOk Tryz.func104 (code := Tryz.f104.body.getD .skip) rfl rfl rfl (gC_in ?_)
  have hd : C Tryz.prog 120 [qA (x :: l) cap, eI 1] (.tup [qA l cap, encI [x]]) := c_drain (x :: l) cap
  repeat (first | (refine oR ?_; (conv => whnf)) | refine kOps ?_ | refine oNil ?_ | refine sSeq ?_ | refine sR ?_ | refine qSeqN ?_)
  (refine oCall rfl (.inl rfl) rfl rfl rfl (.fz [] _) rfl ⟨rfl, hd, ?_⟩; (conv => whnf))
  repeat (first | (refine oR ?_; (conv => whnf)) | refine kOps ?_ | refine oNil ?_ | refine sSeq ?_ | refine sR ?_ | refine qSeqN ?_ | refine sSkip ?_ | refine sF ?_)
  refine sDt [5, 6, 7] ?_
  repeat (first | (apply g3run; exact rfl; exact rfl; exact .inl rfl; (conv => whnf); exact .mk rfl) | (apply g3run; exact rfl; exact rfl; exact .inl rfl; (conv => whnf)))
  refine ⟨0, _, rfl, rfl, ?_⟩
  conv => whnf
  exact .mk rfl
  repeat (first | refine g3skip ?_ | (apply g3run; exact rfl; exact rfl; exact .inl rfl; (conv => whnf); exact .mk rfl) | refine g3nil ?_ | refine kT ?_ | (apply gTrun; exact rfl; exact rfl; exact rfl; (conv => whnf); exact .mk rfl) | (apply gRcons; exact rfl; exact rfl; exact rfl; (conv => whnf); exact .mk rfl) | (apply gRcons; exact rfl; exact rfl; exact rfl; (conv => whnf)))
  refine ⟨0, _, rfl, rfl, ?_⟩
  conv => whnf
  exact .mk rfl
  repeat (first | refine qSeqN ?_ | refine sRet ?_ | (apply gTrun; exact rfl; exact rfl; exact rfl; (conv => whnf); exact .mk rfl) | (apply gRcons; exact rfl; exact rfl; exact rfl; (conv => whnf); exact .mk rfl) | exact gRnil | refine gTnil ?_)
  refine qEnd ?_
  conv => whnf
  rfl
/-- Where a number stands. -/
def ixGo (x : Int) : List Int → Nat → Int
  | [], _ => -1
  | n :: l, i => if x = n then (i : Int) else ixGo x l (i + 1)
theorem ixGo_or (x : Int) : ∀ (l : List Int) (i : Nat), (ixGo x l i = -1 ∧ x ∉ l) ∨ (0 ≤ ixGo x l i ∧ x ∈ l)
  | [], i => .inl ⟨rfl, by simp⟩
  | n :: l, i => by
    unfold ixGo
    by_cases h : x = n
    · rw [if_pos h]
      exact .inr ⟨by omega, by simp [h]⟩
    · rw [if_neg h]
      rcases ixGo_or x l (i + 1) with ⟨h1, h2⟩ | ⟨h1, h2⟩
      · exact .inl ⟨h1, by simp [h, h2]⟩
      · exact .inr ⟨h1, by simp [h2]⟩
theorem c_index (l : List Int) (x : Int) (hT : l.length ≤ 1099511627776) : C Tryz.prog 66 [encI l, eI x] (eI (ixGo x l 0)) := by
  refine fnOk mixed tyOk Tryz.func66 (code := Tryz.f66.body.getD .skip) rfl rfl rfl (gC_in ?_)
  have hlen : (l.map fun n => [eI n]).length = l.length := List.length_map _
  repeat (first | (refine oR ?_; (conv => whnf)) | refine kOps ?_ | refine oNil ?_ | refine sSeq ?_ | refine sR ?_ | refine qSeqN ?_ | refine sBlk ?_)
  refine sLoop (α := Nat) (fun i => i ≤ l.length ∧ ixGo x (l.drop i) i = ixGo x l 0) (fun i => ⟨tl [(0, encI l), (1, eI x), (7, eI l.length), (8, eI (i : Int))], Ll [], 19, 0, [], none⟩) (fun i => l.length - i) 0
    (.keep _ _ _ _ trivial ⟨rfl, rfl, congrArg (fun n : Nat => eI n) hlen, rfl, trivial⟩ rfl rfl) ⟨Nat.zero_le _, rfl⟩ fun i hi => ?_
  obtain ⟨hi, hix⟩ := hi
  repeat (first | (refine oR ?_; (conv => whnf)) | refine kOps ?_ | refine oNil ?_ | refine sSeq ?_ | refine sR ?_ | refine qSeqN ?_)
  refine sC rfl (fun h1 => ?_) (fun h1 => ?_)
  · have hlt : i < l.length := by have := dT h1; omega
    obtain ⟨n, hn⟩ : ∃ n, l[i]? = some n := ⟨_, List.getElem?_eq_getElem hlt⟩
    rw [drop_of hn, ixGo] at hix
    repeat (first | (refine oR ?_; (conv => whnf)) | refine kOps ?_ | refine oNil ?_ | refine sSeq ?_ | refine sR ?_ | refine qSeqN ?_ | refine sSkip ?_ | refine sBlk ?_)
    refine ⟨i, _, rfl, encI_get hn, ?_⟩
    conv => whnf
    repeat (first | (refine oR ?_; (conv => whnf)) | refine kOps ?_ | refine oNil ?_ | refine qSeqN ?_)
    refine sC rfl (fun h2 => ?_) (fun h2 => ?_)
    · have h2 : x = n := by simpa using h2
      rw [if_pos h2] at hix
      rw [← hix]
      repeat (first | (refine oR ?_; (conv => whnf)) | refine kOps ?_ | refine oNil ?_ | refine sSeq ?_ | refine sR ?_ | refine qSeqN ?_ | refine sRet ?_ | refine qSeqR ?_ | refine qBlkR ?_ | refine qLoopR ?_)
      refine qEnd ?_
      conv => whnf
      rfl
    · have h2 : ¬ x = n := by simpa using h2
      rw [if_neg h2] at hix
      repeat (first | (refine oR ?_; (conv => whnf)) | refine kOps ?_ | refine oNil ?_ | refine sR ?_ | refine qSeqN ?_ | refine sSkip ?_ | refine qBlkN ?_)
      exact qLoopN (i + 1) .kp ⟨hlt, hix⟩ (by omega)
  · have hge : l.length ≤ i := by have := dF h1; omega
    rw [List.drop_eq_nil_of_le hge] at hix
    rw [← hix]
    repeat (first | (refine oR ?_; (conv => whnf)) | refine kOps ?_ | refine oNil ?_ | refine sSeq ?_ | refine sR ?_ | refine qSeqN ?_ | refine sRet ?_ | refine sExit ?_ | refine qSeqE ?_ | refine qX ?_ | refine qLoopE ?_)
    refine qEnd ?_
    conv => whnf
    rfl
theorem c_contains6 (l : List Int) (x : Int) (hT : l.length ≤ 1099511627776) : C Tryz.prog 37 [encI l, eI x] (.bool (decide (x ∈ l))) := by
  refine fnOk mixed tyOk Tryz.func37 (code := Tryz.f37.body.getD .skip) rfl rfl rfl (gC_in ?_)
  have ho := ixGo_or x l 0
  repeat (first | (refine oR ?_; (conv => whnf)) | refine kOps ?_ | refine oNil ?_ | refine sSeq ?_ | refine sR ?_ | refine qSeqN ?_)
  (refine oCall rfl (.inl rfl) rfl rfl rfl (.fz [] _) rfl ⟨rfl, c_index l x hT, ?_⟩; (conv => whnf))
  repeat (first | (refine oR ?_; (conv => whnf)) | refine kOps ?_ | refine oNil ?_ | refine qSeqN ?_ | refine sRet ?_)
  refine qEnd ?_
  conv => whnf
  refine congrArg AV.bool (decide_eq_decide.2 ?_)
  rcases ho with ⟨h1, h2⟩ | ⟨h1, h2⟩
  · rw [h1]
    exact ⟨fun h => by omega, fun h => absurd h h2⟩
  · exact ⟨fun _ => h2, fun _ => h1⟩
end Go.Proofs.YtcmciimogcfakaaGreat

/- IndexFunc, ContainsFunc; the closures. -/
set_option linter.unusedVariables false
set_option linter.unusedSimpArgs false
namespace Go.Proofs.YtcmciimogcfakaaGreat
open Go Go.RowKit
open Classical

/-- Where it is first so. -/
def fxGo (p : Int → Bool) : List Int → Nat → Int
  | [], _ => -1
  | n :: l, i => if p n = true then (i : Int) else fxGo p l (i + 1)
theorem fxGo_or (p : Int → Bool) : ∀ (l : List Int) (i : Nat), (fxGo p l i = -1 ∧ ∀ x ∈ l, p x = false) ∨ ∃ (j : Nat) (x : Int), l[j]? = some x ∧ p x = true ∧ fxGo p l i = ((i + j : Nat) : Int) ∧ ∀ (m : Nat) (y : Int), m < j → l[m]? = some y → p y = false
  | [], i => .inl ⟨rfl, by simp⟩
  | n :: l, i => by
    unfold fxGo
    cases h : p n with
    | true => exact .inr ⟨0, n, rfl, h, by simp, fun m y hm => by omega⟩
    | false =>
      rcases fxGo_or p l (i + 1) with ⟨h1, h2⟩ | ⟨j, x, h1, h2, h3, h4⟩
      · refine .inl ⟨by simpa using h1, fun x hx => ?_⟩
        rcases List.mem_cons.1 hx with rfl | hx
        · exact h
        · exact h2 x hx
      · refine .inr ⟨j + 1, x, by simpa using h1, h2, by simp [h3]; omega, fun m y hm hy => ?_⟩
        cases m with
        | zero => simp at hy; subst hy; exact h
        | succ m => exact h4 m y (by omega) (by simpa using hy)
theorem c_cl1 (l : List Int) (x : Int) (hT : l.length ≤ 1099511627776) : C Tryz.prog 70 [eI x, .vptr [encI l]] (.bool (!decide (x ∈ l))) := by
  refine fnOk mixed tyOk Tryz.func70 (code := Tryz.f70.body.getD .skip) rfl rfl rfl (gC_in ?_)
  repeat (first | (refine oR ?_; (conv => whnf)) | refine kOps ?_ | refine oNil ?_ | refine sSeq ?_ | refine sR ?_ | refine qSeqN ?_)
  (refine oCall rfl (.inl rfl) rfl rfl rfl (.fz [] _) rfl ⟨rfl, c_contains6 l x hT, ?_⟩; (conv => whnf))
  repeat (first | (refine oR ?_; (conv => whnf)) | refine kOps ?_ | refine oNil ?_ | refine qSeqN ?_ | refine sRet ?_)
  refine qEnd ?_
  conv => whnf
  rfl
theorem c_lost1 (l : List Int) (x : Int) (hT : l.length ≤ 1099511627776) : C Tryz.prog 36 [eI x, .vptr [encI l]] (.bool (decide (x ∈ l))) := by
  refine fnOk mixed tyOk Tryz.func36 (code := Tryz.f36.body.getD .skip) rfl rfl rfl (gC_in ?_)
  repeat (first | (refine oR ?_; (conv => whnf)) | refine kOps ?_ | refine oNil ?_ | refine sSeq ?_ | refine sR ?_ | refine qSeqN ?_)
  (refine oCall rfl (.inl rfl) rfl rfl rfl (.fz [] _) rfl ⟨rfl, c_contains6 l x hT, ?_⟩; (conv => whnf))
  repeat (first | (refine oR ?_; (conv => whnf)) | refine kOps ?_ | refine oNil ?_ | refine qSeqN ?_ | refine sRet ?_)
  refine qEnd ?_
  conv => whnf
  rfl
theorem c_news1 (cs : List Ce) (la sr h : Int) (hR : Rs cs) : C Tryz.prog 67 [eI h, .vptr [encC cs, eI la, eI sr]] (.bool (lv cs h)) := by
  refine fnOk mixed tyOk Tryz.func67 (code := Tryz.f67.body.getD .skip) rfl rfl rfl (gC_in ?_)
  have hg := c_get6 ⟨cs, la, sr⟩ h hR
  unfold lv
  rcases rGet_cases cs h with ⟨c, hl, hr⟩ | ⟨hl, e, he, hr⟩
  · rw [hr] at hg
    rw [hl]
    repeat (first | (refine oR ?_; (conv => whnf)) | refine kOps ?_ | refine oNil ?_ | refine sSeq ?_ | refine sR ?_ | refine qSeqN ?_)
    (refine oCall rfl (.inl rfl) rfl rfl rfl (.fz [] _) rfl ⟨rfl, hg, ?_⟩; (conv => whnf))
    repeat (first | (refine oR ?_; (conv => whnf)) | refine kOps ?_ | refine oNil ?_ | refine sSeq ?_ | refine sR ?_ | refine qSeqN ?_ | refine sRet ?_)
    refine qEnd ?_
    conv => whnf
    rfl
  · rw [hr] at hg
    rw [hl]
    repeat (first | (refine oR ?_; (conv => whnf)) | refine kOps ?_ | refine oNil ?_ | refine sSeq ?_ | refine sR ?_ | refine qSeqN ?_)
    (refine oCall rfl (.inl rfl) rfl rfl rfl (.fz [] _) rfl ⟨rfl, hg, ?_⟩; (conv => whnf))
    repeat (first | (refine oR ?_; (conv => whnf)) | refine kOps ?_ | refine oNil ?_ | refine sSeq ?_ | refine sR ?_ | refine qSeqN ?_ | refine sRet ?_)
    refine qEnd ?_
    conv => whnf
    exact congrArg AV.bool (by simp [he])
theorem c_indexf (l m : List Int) (hm : m.length ≤ 1099511627776) (hT : l.length ≤ 1099511627776) : C Tryz.prog 61 [encI l, .fn 70 [.vptr [encI m]]] (eI (fxGo (fun x => !decide (x ∈ m)) l 0)) := by
  refine fnOk mixed tyOk Tryz.func61 (code := Tryz.f61.body.getD .skip) rfl rfl rfl (gC_in ?_)
  have hlen : (l.map fun n => [eI n]).length = l.length := List.length_map _
  repeat (first | (refine oR ?_; (conv => whnf)) | refine kOps ?_ | refine oNil ?_ | refine sSeq ?_ | refine sR ?_ | refine qSeqN ?_ | refine sBlk ?_)
  refine sLoop (α := Nat) (fun i => i ≤ l.length ∧ fxGo (fun x => !decide (x ∈ m)) (l.drop i) i = fxGo (fun x => !decide (x ∈ m)) l 0) (fun i => ⟨tl [(0, encI l), (1, .fn 70 [.vptr [encI m]]), (7, eI l.length), (8, eI (i : Int))], Ll [], 19, 0, [], none⟩) (fun i => l.length - i) 0
    (.keep _ _ _ _ trivial ⟨rfl, rfl, congrArg (fun n : Nat => eI n) hlen, rfl, trivial⟩ rfl rfl) ⟨Nat.zero_le _, rfl⟩ fun i hi => ?_
  obtain ⟨hi, hix⟩ := hi
  repeat (first | (refine oR ?_; (conv => whnf)) | refine kOps ?_ | refine oNil ?_ | refine sSeq ?_ | refine sR ?_ | refine qSeqN ?_)
  refine sC rfl (fun h1 => ?_) (fun h1 => ?_)
  · have hlt : i < l.length := by have := dT h1; omega
    obtain ⟨n, hn⟩ : ∃ n, l[i]? = some n := ⟨_, List.getElem?_eq_getElem hlt⟩
    rw [drop_of hn, fxGo] at hix
    repeat (first | (refine oR ?_; (conv => whnf)) | refine kOps ?_ | refine oNil ?_ | refine sSeq ?_ | refine sR ?_ | refine qSeqN ?_ | refine sSkip ?_ | refine sBlk ?_)
    refine ⟨i, _, rfl, encI_get hn, ?_⟩
    conv => whnf
    repeat (first | (refine oR ?_; (conv => whnf)) | refine kOps ?_)
    (refine oCall rfl (.inl rfl) rfl rfl rfl (.fz [] _) rfl ⟨rfl, c_cl1 m n hm, ?_⟩; (conv => whnf))
    repeat (first | refine kOps ?_ | refine oNil ?_ | refine qSeqN ?_)
    refine sC rfl (fun h2 => ?_) (fun h2 => ?_)
    · rw [if_pos h2] at hix
      rw [← hix]
      repeat (first | (refine oR ?_; (conv => whnf)) | refine kOps ?_ | refine oNil ?_ | refine sSeq ?_ | refine sR ?_ | refine qSeqN ?_ | refine sRet ?_ | refine qSeqR ?_ | refine qBlkR ?_ | refine qLoopR ?_)
      refine qEnd ?_
      conv => whnf
      rfl
    · rw [if_neg (by simp only [h2]; decide)] at hix
      repeat (first | (refine oR ?_; (conv => whnf)) | refine kOps ?_ | refine oNil ?_ | refine sR ?_ | refine qSeqN ?_ | refine sSkip ?_ | refine qBlkN ?_)
      exact qLoopN (i + 1) .kp ⟨hlt, hix⟩ (by omega)
  · have hge : l.length ≤ i := by have := dF h1; omega
    rw [List.drop_eq_nil_of_le hge] at hix
    rw [← hix]
    repeat (first | (refine oR ?_; (conv => whnf)) | refine kOps ?_ | refine oNil ?_ | refine sSeq ?_ | refine sR ?_ | refine qSeqN ?_ | refine sRet ?_ | refine sExit ?_ | refine qSeqE ?_ | refine qX ?_ | refine qLoopE ?_)
    refine qEnd ?_
    conv => whnf
    rfl
theorem c_containsf (l m : List Int) (hm : m.length ≤ 1099511627776) (hT : l.length ≤ 1099511627776) : C Tryz.prog 69 [encI l, .fn 70 [.vptr [encI m]]] (.bool (decide (∃ x ∈ l, x ∉ m))) := by
  refine fnOk mixed tyOk Tryz.func69 (code := Tryz.f69.body.getD .skip) rfl rfl rfl (gC_in ?_)
  have ho := fxGo_or (fun x => !decide (x ∈ m)) l 0
  repeat (first | (refine oR ?_; (conv => whnf)) | refine kOps ?_ | refine oNil ?_ | refine sSeq ?_ | refine sR ?_ | refine qSeqN ?_)
  (refine oCall rfl (.inl rfl) rfl rfl rfl (.fz [] _) rfl ⟨rfl, c_indexf l m hm hT, ?_⟩; (conv => whnf))
  repeat (first | (refine oR ?_; (conv => whnf)) | refine kOps ?_ | refine oNil ?_ | refine qSeqN ?_ | refine sRet ?_)
  refine qEnd ?_
  conv => whnf
  refine congrArg AV.bool (decide_eq_decide.2 ?_)
  rcases ho with ⟨h1, h2⟩ | ⟨j, x, h1, h2, h3, _⟩
  · rw [h1]
    exact ⟨fun h => by omega, fun ⟨x, hx, hn⟩ => by have := h2 x hx; simp at this; exact absurd this hn⟩
  · rw [h3]
    exact ⟨fun _ => ⟨x, List.mem_of_getElem? h1, by simpa using h2⟩, fun _ => by omega⟩
end Go.Proofs.YtcmciimogcfakaaGreat

/- What is seen: the closure of split. -/
set_option linter.unusedVariables false
set_option linter.unusedSimpArgs false
namespace Go.Proofs.YtcmciimogcfakaaGreat
open Go Go.RowKit
open Classical

def mE (seen : List Int) : List (Int × AV) := seen.map fun h => (h, .bool true)
theorem mapGet_mE : ∀ (seen : List Int) (h : Int), mapGet (mE seen) h = if h ∈ seen then some (.bool true) else none
  | [], h => by simp [mapGet, mE]
  | x :: seen, h => by
    have ih := mapGet_mE seen h
    unfold mapGet mE at ih ⊢
    rw [List.map_cons, List.find?_cons]
    by_cases hx : x = h
    · simp [hx]
    · rw [show ((x, AV.bool true).1 == h) = false by simp [hx]]
      simp only
      rw [ih]
      have : h ≠ x := fun e => hx e.symm
      simp [this]
theorem mapSet_mE : ∀ (seen : List Int) (h : Int), h ∉ seen → mapSet (mE seen) h (.bool true) = mE (seen ++ [h])
  | [], h, _ => rfl
  | x :: seen, h, hn => by
    have hx : ¬ x = h := fun e => hn (by simp [e])
    have ih := mapSet_mE seen h fun hm => hn (by simp [hm])
    unfold mE at ih ⊢
    rw [List.map_cons, mapSet, if_neg hx, ih]
    rfl
/-- The blocks that see turns. -/
def seeL (q seen : List Int) : List Blk := [.box 150 [.mp 2], .box 152 [encI q, eI 24], .map .i64 (mE seen)]
theorem mE_map (g : AV → AV) (seen : List Int) (h : g (.bool true) = .bool true) : (Blk.map .i64 (mE seen)).map' g = .map .i64 (mE seen) := rfl
theorem see_Ll {q seen : List Int} : Ll [(0, .box 150 [.mp 2]), (1, .box 152 [encI q, eI 24]), (2, .map .i64 (mE seen))] = lk (seeL q seen) := by
  funext i
  rcases i with _ | _ | _ | i <;> rfl
theorem see_K {es : List Ent} {q seen : List Int} (h : es.length = (seeL q seen).length) : ∀ i, i < es.length → memB [0, 1, 2] i = true := by
  intro i hi
  rw [h] at hi
  have : i < 3 := hi
  rcases (show i = 0 ∨ i = 1 ∨ i = 2 by omega) with rfl | rfl | rfl <;> rfl
theorem c_see_no (cs : List Ce) (la sr h : Int) (q seen : List Int) (hR : Rs cs) (hn : lv cs h = false ∨ h ∈ seen) : CE Tryz.prog 101 [eI h, .vptr [encC cs, eI la, eI sr], .ptr 0 0 0, .ptr 1 0 0] (seeL q seen) (.tup []) (seeL q seen) := by
  refine fnOkE mixed tyOk Tryz.func101 (code := Tryz.f101.body.getD .skip) rfl rfl rfl rfl rfl fun es hes => (gC_in ?_)
  have hg := c_get6 ⟨cs, la, sr⟩ h hR
  have hm := mapGet_mE seen h
  unfold lv at hn
  rcases rGet_cases cs h with ⟨c, hl, hr⟩ | ⟨hl, e, he, hr⟩
  · rw [hr] at hg
    rw [hl] at hn
    have hin : h ∈ seen := hn.resolve_left (by simp)
    rw [if_pos hin] at hm
    repeat (first | (refine oR ?_; (conv => whnf)) | refine kOps ?_ | refine sSeq ?_ | refine sR ?_)
    (refine oCall rfl (.inl rfl) rfl rfl rfl (.fz [] _) rfl ⟨rfl, hg, ?_⟩; (conv => whnf))
    repeat (first | (refine oR ?_; (conv => whnf)) | refine kOps ?_ | (refine oG ?_; (conv => whnf)) | refine oNil ?_ | refine sSeq ?_ | refine sR ?_ | refine qSeqN ?_)
    refine ⟨_, hm, ?_⟩
    conv => whnf
    repeat (first | (refine oR ?_; (conv => whnf)) | refine kOps ?_ | (refine oG ?_; (conv => whnf)) | refine oNil ?_ | refine qSeqN ?_ | refine sSkip ?_ | refine sF ?_ | (refine sBT ?_; (conv => whnf)))
    exact qEndEN (efEnd_of [] [(0, .box 150 [.mp 2]), (1, .box 152 [encI q, eI 24]), (2, .map .i64 (mE seen))] ⟨rfl, rfl, mE_map _ _ rfl, trivial⟩ trivial rfl rfl see_Ll (see_K hes) rfl)
  · rw [hr] at hg
    repeat (first | (refine oR ?_; (conv => whnf)) | refine kOps ?_ | refine sSeq ?_ | refine sR ?_)
    (refine oCall rfl (.inl rfl) rfl rfl rfl (.fz [] _) rfl ⟨rfl, hg, ?_⟩; (conv => whnf))
    repeat (first | (refine oR ?_; (conv => whnf)) | refine kOps ?_ | refine oNil ?_ | refine sSeq ?_ | refine sR ?_ | refine qSeqN ?_)
    refine oS rfl rfl rfl (fun h1 => ?_) (fun h1 => ?_)
    · simp at h1
      exact absurd h1 he
    repeat (first | (refine oR ?_; (conv => whnf)) | refine kOps ?_ | refine oH ?_ | refine oNil ?_ | refine qSeqN ?_ | refine sSkip ?_ | refine sF ?_ | (refine sBF ?_; (conv => whnf)))
    exact qEndEN (efEnd_of [] [(0, .box 150 [.mp 2]), (1, .box 152 [encI q, eI 24]), (2, .map .i64 (mE seen))] ⟨rfl, rfl, mE_map _ _ rfl, trivial⟩ trivial rfl rfl see_Ll (see_K hes) rfl)
theorem c_see_yes (cs : List Ce) (la sr h : Int) (q seen : List Int) (hR : Rs cs) (hl : lv cs h = true) (hn : h ∉ seen) (hq : q.length < 24) : CE Tryz.prog 101 [eI h, .vptr [encC cs, eI la, eI sr], .ptr 0 0 0, .ptr 1 0 0] (seeL q seen) (.tup []) (seeL (q ++ [h]) (seen ++ [h])) := by
  refine fnOkE mixed tyOk Tryz.func101 (code := Tryz.f101.body.getD .skip) rfl rfl rfl rfl rfl fun es hes => (gC_in ?_)
  have hg := c_get6 ⟨cs, la, sr⟩ h hR
  have hm := mapGet_mE seen h
  have hms := mapSet_mE seen h hn
  have hp := c_push q 24 h (by omega) (by omega)
  unfold lv at hl
  rcases rGet_cases cs h with ⟨c, hl2, hr⟩ | ⟨hl2, e, he, hr⟩
  · rw [hr] at hg
    rw [if_neg hn] at hm
    repeat (first | (refine oR ?_; (conv => whnf)) | refine kOps ?_ | refine sSeq ?_ | refine sR ?_)
    (refine oCall rfl (.inl rfl) rfl rfl rfl (.fz [] _) rfl ⟨rfl, hg, ?_⟩; (conv => whnf))
    repeat (first | (refine oR ?_; (conv => whnf)) | refine kOps ?_ | (refine oG ?_; (conv => whnf)) | refine oNil ?_ | refine sSeq ?_ | refine sR ?_ | refine qSeqN ?_)
    refine ⟨_, hm, ?_⟩
    conv => whnf
    repeat (first | (refine oR ?_; (conv => whnf)) | refine kOps ?_ | (refine oG ?_; (conv => whnf)) | refine oNil ?_ | refine sSeq ?_ | refine sR ?_ | refine qSeqN ?_ | refine sT ?_ | (refine sBT ?_; (conv => whnf)))
    (refine oCall rfl (.inl rfl) rfl rfl rfl (.fz [] _) rfl ⟨rfl, hp, ?_⟩; (conv => whnf))
    repeat (first | (refine oR ?_; (conv => whnf)) | refine kOps ?_ | refine oNil ?_)
    exact qEndEN (efEnd_of [] [(0, .box 150 [.mp 2]), (1, .box 152 [encI (q ++ [h]), eI 24]), (2, .map .i64 (mE (seen ++ [h])))] ⟨rfl, rfl, congrArg (fun z => Blk.map .i64 z) hms, trivial⟩ trivial rfl rfl see_Ll (see_K hes) rfl)
  · rw [hl2] at hl
    cases hl
end Go.Proofs.YtcmciimogcfakaaGreat

/- reach.split, with what lives given. -/
set_option linter.unusedVariables false
set_option linter.unusedSimpArgs false
namespace Go.Proofs.YtcmciimogcfakaaGreat
open Go Go.RowKit
open Classical

/-- What is reached from l. -/
inductive Rch (cs : List Ce) (l : List Int) : Int → Prop
  | base {h : Int} (hm : h ∈ l) (hv : lv cs h = true) : Rch cs l h
  | step {a h : Int} (ha : Rch cs l a) (hm : h ∈ outL cs a) (hv : lv cs h = true) : Rch cs l h
theorem Rch.lives {cs : List Ce} {l : List Int} {h : Int} (hr : Rch cs l h) : lv cs h = true := by cases hr <;> assumption
/-- What has been seen when: q is still to be looked at. -/
structure Seen (cs : List Ce) (l : List Int) (q seen : List Int) : Prop where
  nd : seen.Nodup
  rc : ∀ h ∈ seen, Rch cs l h
  qs : ∃ old, seen = old ++ q ∧ ∀ a ∈ old, ∀ h ∈ outL cs a, lv cs h = true → h ∈ seen
theorem live_mem {cs : List Ce} {h : Int} (hv : lv cs h = true) : h ∈ liveL cs := by
  unfold lv liveC at hv
  split at hv
  · rename_i i he
    obtain ⟨c, hc, ht, hp⟩ := findH_some he
    rw [sAt_of hc] at hv
    have h1 : c.st = 1 := by
      rcases ht with h | h
      · exact h
      · rw [if_pos h] at hv
        cases hv
    rw [liveL, List.mem_map]
    exact ⟨i, liveX_mem.2 ⟨c, hc, h1⟩, by rw [hd_of hc]; exact hp⟩
  · cases hv
theorem lv_of {cs : List Ce} (hR : Rs cs) {h : Int} (hm : h ∈ liveL cs) : lv cs h = true := by
  rw [liveL, List.mem_map] at hm
  obtain ⟨i, hi, rfl⟩ := hm
  obtain ⟨c, hc, h1⟩ := liveX_mem.1 hi
  rw [lv, liveC, findH_of hR hc (.inl h1) (hd_of hc).symm]
  simp only [sAt_of hc, h1]
  simp [hc]
theorem nodup_le {α : Type} : ∀ {l m : List α}, l.Nodup → (∀ x ∈ l, x ∈ m) → l.length ≤ m.length
  | [], m, _, _ => Nat.zero_le _
  | x :: l, m, hn, hs => by
    rw [List.nodup_cons] at hn
    obtain ⟨a, b, rfl⟩ := List.append_of_mem (hs x (by simp))
    have := nodup_le (l := l) (m := a ++ b) hn.2 fun y hy => by
      have := hs y (by simp [hy])
      have hne : y ≠ x := fun e => hn.1 (e ▸ hy)
      simp [hne] at this ⊢
      exact this
    simp at this ⊢
    omega
theorem Seen.len {cs : List Ce} {l q seen : List Int} (hR : Rs cs) (h : Seen cs l q seen) : seen.length ≤ 24 :=
  Nat.le_trans (nodup_le h.nd fun x hx => live_mem (h.rc x hx).lives) (liveL_len hR)
theorem Seen.lt {cs : List Ce} {l q seen : List Int} (hR : Rs cs) (h : Seen cs l q seen) {x : Int} (hv : lv cs x = true) (hn : x ∉ seen) : seen.length < 24 := by
  have hnd : (x :: seen).Nodup := List.nodup_cons.2 ⟨hn, h.nd⟩
  have := nodup_le (m := liveL cs) hnd fun y hy => by
    rcases List.mem_cons.1 hy with rfl | hy
    · exact live_mem hv
    · exact live_mem (h.rc y hy).lives
  have := liveL_len hR
  simp at *
  omega
theorem Seen.add {cs : List Ce} {l q seen : List Int} (h : Seen cs l q seen) {x : Int} (hx : Rch cs l x) (hn : x ∉ seen) : Seen cs l (q ++ [x]) (seen ++ [x]) := by
  obtain ⟨h1, h2, old, h3, h4⟩ := h
  refine ⟨?_, fun y hy => ?_, old, by rw [h3, List.append_assoc], fun a ha y hy hv => by have := h4 a ha y hy hv; simp [this]⟩
  · rw [List.nodup_append]
    exact ⟨h1, by simp, fun a ha b hb => by simp at hb; subst hb; exact fun e => hn (e ▸ ha)⟩
  · rcases List.mem_append.1 hy with hy | hy
    · exact h2 y hy
    · simp at hy
      exact hy ▸ hx
theorem Seen.done {cs : List Ce} {l seen : List Int} (h : Seen cs l [] seen) (hl : ∀ x ∈ l, lv cs x = true → x ∈ seen) (x : Int) : x ∈ seen ↔ Rch cs l x := by
  obtain ⟨h1, h2, old, h3, h4⟩ := h
  rw [List.append_nil] at h3
  subst h3
  refine ⟨h2 x, fun hr => ?_⟩
  induction hr with
  | base hm hv => exact hl _ hm hv
  | step _ hm hv ih => exact h4 _ ih _ hm hv
/-- As Seen, while h's names are looked at. -/
structure Seen2 (cs : List Ce) (l : List Int) (h : Int) (k : Nat) (q seen : List Int) : Prop where
  nd : seen.Nodup
  rc : ∀ x ∈ seen, Rch cs l x
  qs : ∃ old, seen = old ++ h :: q ∧ ∀ a ∈ old, ∀ x ∈ outL cs a, lv cs x = true → x ∈ seen
  ot : ∀ (j : Nat) (x : Int), j < k → (outL cs h)[j]? = some x → lv cs x = true → x ∈ seen
theorem Seen.two {cs : List Ce} {l q seen : List Int} {h : Int} (hS : Seen cs l (h :: q) seen) : Seen2 cs l h 0 q seen :=
  ⟨hS.nd, hS.rc, hS.qs, fun j x hj => by omega⟩
theorem Seen2.one {cs : List Ce} {l q seen : List Int} {h : Int} {k : Nat} (hS : Seen2 cs l h k q seen) (hk : (outL cs h).length ≤ k) : Seen cs l q seen := by
  obtain ⟨h1, h2, ⟨old, h3, h4⟩, h5⟩ := hS
  refine ⟨h1, h2, old ++ [h], by rw [h3]; simp, fun a ha x hx hv => ?_⟩
  rcases List.mem_append.1 ha with ha | ha
  · exact h4 a ha x hx hv
  · simp at ha
    subst ha
    obtain ⟨j, hj⟩ := List.mem_iff_getElem?.1 hx
    exact h5 j x (by have := lt_of_get hj; omega) hj hv
theorem Seen2.add {cs : List Ce} {l q seen : List Int} {h : Int} {k : Nat} (hS : Seen2 cs l h k q seen) {x : Int} (hx : (outL cs h)[k]? = some x) (hv : lv cs x = true) (hn : x ∉ seen) : Seen2 cs l h (k + 1) (q ++ [x]) (seen ++ [x]) := by
  obtain ⟨h1, h2, ⟨old, h3, h4⟩, h5⟩ := hS
  refine ⟨?_, fun y hy => ?_, ⟨old, by rw [h3]; simp, fun a ha y hy hv => by have := h4 a ha y hy hv; simp [this]⟩, fun j y hj hy hv => ?_⟩
  · rw [List.nodup_append]
    exact ⟨h1, by simp, fun a ha b hb => by simp at hb; subst hb; exact fun e => hn (e ▸ ha)⟩
  · rcases List.mem_append.1 hy with hy | hy
    · exact h2 y hy
    · simp at hy
      subst hy
      exact .step (h2 h (by rw [h3]; simp)) (List.mem_of_getElem? hx) hv
  · rcases (show j < k ∨ j = k by omega) with hj | rfl
    · have := h5 j y hj hy hv
      simp [this]
    · rw [hx] at hy
      cases hy
      simp
theorem Seen2.skip {cs : List Ce} {l q seen : List Int} {h : Int} {k : Nat} (hS : Seen2 cs l h k q seen) {x : Int} (hx : (outL cs h)[k]? = some x) (hn : lv cs x = false ∨ x ∈ seen) : Seen2 cs l h (k + 1) q seen := by
  refine ⟨hS.nd, hS.rc, hS.qs, fun j y hj hy hv => ?_⟩
  rcases (show j < k ∨ j = k by omega) with hj | rfl
  · exact hS.ot j y hj hy hv
  · rw [hx] at hy
    cases hy
    exact hn.resolve_left (by rw [hv]; decide)
theorem Seen2.lt {cs : List Ce} {l q seen : List Int} {h : Int} {k : Nat} (hR : Rs cs) (hS : Seen2 cs l h k q seen) {x : Int} (hv : lv cs x = true) (hn : x ∉ seen) : seen.length < 24 := by
  have hnd : (x :: seen).Nodup := List.nodup_cons.2 ⟨hn, hS.nd⟩
  have := nodup_le (m := liveL cs) hnd fun y hy => by
    rcases List.mem_cons.1 hy with rfl | hy
    · exact live_mem hv
    · exact live_mem (hS.rc y hy).lives
  have := liveL_len hR
  simp at *
  omega
end Go.Proofs.YtcmciimogcfakaaGreat

/- reach.split. -/
set_option linter.unusedVariables false
set_option linter.unusedSimpArgs false
namespace Go.Proofs.YtcmciimogcfakaaGreat
open Go Go.RowKit
open Classical

/-- What of all that live is so. -/
noncomputable def fromL (cs : List Ce) (l : List Int) : List Int := (liveL cs).filter fun h => decide (Rch cs l h)
noncomputable def restL (cs : List Ce) (l : List Int) : List Int := (liveL cs).filter fun h => !decide (Rch cs l h)
set_option maxRecDepth 100000 in
theorem c_split (cs : List Ce) (la sr : Int) (l : List Int) (hR : Rs cs) (hl : l.length ≤ 1099511627776) (hlv : C Tryz.prog 35 [tS cs la sr] (encI (liveL cs))) : C Tryz.prog 83 [tS cs la sr, encI l] (.tup [encI (fromL cs l), encI (restL cs l)]) := by
  refine fnOk mixed tyOk Tryz.func83 (code := Tryz.f83.body.getD .skip) rfl rfl rfl (gC_in ?_)
  have hlen : (l.map fun n => [eI n]).length = l.length := List.length_map _
  repeat (first | (refine oR ?_; (conv => whnf)) | refine kOps ?_ | refine oNil ?_ | refine sSeq ?_ | refine sR ?_ | refine qSeqN ?_)
  (refine oCall rfl (.inl rfl) rfl rfl rfl (.fz [] _) rfl ⟨rfl, c_qnew 24, ?_⟩; (conv => whnf))
  repeat (first | (refine oR ?_; (conv => whnf)) | refine kOps ?_ | refine oNil ?_ | refine sSeq ?_ | refine sR ?_ | refine qSeqN ?_ | refine sBlk ?_)
  refine sLoop (α := Nat × List Int × List Int) (fun a => a.1 ≤ l.length ∧ Seen cs l a.2.1 a.2.2 ∧ ∀ (j : Nat) (x : Int), j < a.1 → l[j]? = some x → lv cs x = true → x ∈ a.2.2) (fun a => ⟨tl [(2, .vptr [encC cs, eI la, eI sr]), (4, .nilsl), (5, .nilsl), (6, .ptr 2 0 0), (7, .ptr 3 0 0), (8, .fn 101 [.vptr [encC cs, eI la, eI sr], .ptr 2 0 0, .ptr 3 0 0]), (21, encI l), (22, eI l.length), (23, eI (a.1 : Int))], Ll [(1, .map .i64 (mE a.2.2)), (2, .box 150 [.mp 1]), (3, .box 152 [encI a.2.1, eI 24])], 74, 4, [], none⟩) (fun a => l.length - a.1) (0, [], [])
    (.trans (.fz _ [0]) (.keep _ _ _ _ ⟨rfl, rfl, rfl, trivial⟩ ⟨rfl, rfl, rfl, rfl, rfl, rfl, rfl, congrArg (fun n : Nat => eI n) hlen, rfl, trivial⟩ rfl rfl)) ⟨Nat.zero_le _, ⟨by simp, by simp, [], rfl, by simp⟩, fun j x hj => by simp at hj⟩ fun a hi => ?_
  obtain ⟨i, q, seen⟩ := a
  obtain ⟨hi, hS, hok⟩ := hi
  simp only at hi hS hok
  repeat (first | (refine oR ?_; (conv => whnf)) | refine kOps ?_ | refine oNil ?_ | refine sSeq ?_ | refine sR ?_ | refine qSeqN ?_)
  refine sC rfl (fun h1 => ?_) (fun h1 => ?_)
  · have hlt : i < l.length := by have := dT h1; omega
    obtain ⟨h, hh⟩ : ∃ h, l[i]? = some h := ⟨_, List.getElem?_eq_getElem hlt⟩
    repeat (first | (refine oR ?_; (conv => whnf)) | refine sSeq ?_ | refine sR ?_ | refine qSeqN ?_ | refine sSkip ?_ | refine sBlk ?_)
    refine ⟨i, _, rfl, encI_get hh, ?_⟩
    conv => whnf
    repeat (first | (refine oR ?_; (conv => whnf)) | refine kOps ?_ | refine oNil ?_ | refine sR ?_ | refine qSeqN ?_)
    by_cases hs : lv cs h = true ∧ h ∉ seen
    · have hq : q.length < 24 := by
        have := hS.lt hR hs.1 hs.2
        obtain ⟨old, ho, _⟩ := hS.qs
        rw [ho, List.length_append] at this
        omega
      refine oCall rfl (.inl rfl) rfl rfl rfl (.ef [2, 3, 1] (.tup []) (seeL (q ++ [h]) (seen ++ [h]))) rfl ⟨⟨rfl, rfl, rfl, rfl⟩, c_see_yes cs la sr h q seen hR hs.1 hs.2 hq, ?_⟩
      conv => whnf
      repeat (first | (refine oR ?_; (conv => whnf)) | refine kOps ?_ | refine oNil ?_ | refine sR ?_ | refine qSeqN ?_ | refine qBlkN ?_)
      refine qLoopN (i + 1, q ++ [h], seen ++ [h]) .kp ⟨hlt, hS.add (.base (List.mem_of_getElem? hh) hs.1) hs.2, fun j x hj hx hv => ?_⟩ (by show l.length - (i + 1) < l.length - i; omega)
      rcases (show j < i ∨ j = i by have : j < i + 1 := hj; omega) with hj | rfl
      · have := hok j x hj hx hv
        exact List.mem_append.2 (.inl this)
      · rw [hh] at hx
        cases hx
        exact List.mem_append.2 (.inr (by simp))
    · have hs' : lv cs h = false ∨ h ∈ seen := by
        cases hv : lv cs h with
        | false => exact .inl rfl
        | true => exact .inr (Classical.byContradiction fun hn => hs ⟨hv, hn⟩)
      refine oCall rfl (.inl rfl) rfl rfl rfl (.ef [2, 3, 1] (.tup []) (seeL q seen)) rfl ⟨⟨rfl, rfl, rfl, rfl⟩, c_see_no cs la sr h q seen hR hs', ?_⟩
      conv => whnf
      repeat (first | (refine oR ?_; (conv => whnf)) | refine kOps ?_ | refine oNil ?_ | refine sR ?_ | refine qSeqN ?_ | refine qBlkN ?_)
      refine qLoopN (i + 1, q, seen) .kp ⟨hlt, hS, fun j x hj hx hv => ?_⟩ (by show l.length - (i + 1) < l.length - i; omega)
      rcases (show j < i ∨ j = i by have : j < i + 1 := hj; omega) with hj | rfl
      · exact hok j x hj hx hv
      · rw [hh] at hx
        cases hx
        exact hs'.resolve_left (by rw [hv]; decide)
  · have hge : l.length ≤ i := by have := dF h1; omega
    repeat (first | refine sSeq ?_ | refine qSeqN ?_ | refine sBlk ?_ | refine sExit ?_ | refine qSeqE ?_ | refine qX ?_ | refine qLoopE ?_)
    refine sLoop (α := List Int × List Int) (fun a => Seen cs l a.1 a.2 ∧ ∀ x ∈ l, lv cs x = true → x ∈ a.2) (fun a => ⟨tl [(2, .vptr [encC cs, eI la, eI sr]), (4, .nilsl), (5, .nilsl), (6, .ptr 2 0 0), (7, .ptr 3 0 0), (8, .fn 101 [.vptr [encC cs, eI la, eI sr], .ptr 2 0 0, .ptr 3 0 0])], Ll [(1, .map .i64 (mE a.2)), (2, .box 150 [.mp 1]), (3, .box 152 [encI a.1, eI 24])], 74, 4, [], none⟩) (fun a => 2 * (24 - a.2.length) + a.1.length) (q, seen)
      .kp ⟨hS, fun x hx hv => by
        obtain ⟨j, hj⟩ := List.mem_iff_getElem?.1 hx
        exact hok j x (by have := lt_of_get hj; omega) hj hv⟩ fun b hb => ?_
    clear hS hok
    obtain ⟨q, seen⟩ := b
    obtain ⟨hS, hok⟩ := hb
    simp only at hS hok
    repeat (first | (refine oR ?_; (conv => whnf)) | refine kOps ?_ | refine sSeq ?_ | refine sR ?_)
    (refine oCall rfl (.inl rfl) rfl rfl rfl (.fz [] _) rfl ⟨rfl, c_qlen q 24, ?_⟩; (conv => whnf))
    repeat (first | (refine oR ?_; (conv => whnf)) | refine kOps ?_ | refine oNil ?_ | refine qSeqN ?_)
    cases q with
    | nil =>
      repeat (first | (refine oR ?_; (conv => whnf)) | refine kOps ?_ | refine sSeq ?_ | refine sR ?_ | refine qSeqN ?_ | refine sF ?_ | refine sExit ?_ | refine qSeqE ?_ | refine qX ?_ | refine qLoopE ?_)
      (refine oCall rfl (.inl rfl) rfl rfl rfl (.fz [] _) rfl ⟨rfl, hlv, ?_⟩; (conv => whnf))
      repeat (first | (refine oR ?_; (conv => whnf)) | refine kOps ?_ | refine oNil ?_ | refine qSeqN ?_ | refine sBlk ?_)
      have hdone := hS.done hok
      have h24 := liveL_len hR
      have hget := mapGet_mE seen
      have hfl : ∀ (x : Int) (i : Nat), (liveL cs)[i]? = some x → ((liveL cs).take (i + 1)).filter (fun h => decide (Rch cs l h)) = if x ∈ seen then ((liveL cs).take i).filter (fun h => decide (Rch cs l h)) ++ [x] else ((liveL cs).take i).filter (fun h => decide (Rch cs l h)) := fun x i hx => by
        rw [filter_snoc hx]
        by_cases hm : x ∈ seen
        · rw [if_pos hm, if_pos (decide_eq_true ((hdone x).1 hm))]
        · rw [if_neg hm, if_neg (by simpa using fun h => hm ((hdone x).2 h))]
      have hfr : ∀ (x : Int) (i : Nat), (liveL cs)[i]? = some x → ((liveL cs).take (i + 1)).filter (fun h => !decide (Rch cs l h)) = if x ∈ seen then ((liveL cs).take i).filter (fun h => !decide (Rch cs l h)) else ((liveL cs).take i).filter (fun h => !decide (Rch cs l h)) ++ [x] := fun x i hx => by
        rw [filter_snoc hx]
        by_cases hm : x ∈ seen
        · rw [if_pos hm, if_neg (by simpa using (hdone x).1 hm)]
        · rw [if_neg hm, if_pos (by simpa using fun h => hm ((hdone x).2 h))]
      unfold fromL restL
      have hlen2 : ((liveL cs).map fun n => [eI n]).length = (liveL cs).length := List.length_map _
      have hlb : (liveL cs).length ≤ 1099511627776 := by omega
      have ha := fun i => filter_len (fun h => decide (Rch cs l h)) (liveL cs) i
      have hb := fun i => filter_len (fun h => !decide (Rch cs l h)) (liveL cs) i
      generalize liveL cs = all at h24 hfl hfr hlen2 hlb ha hb ⊢
      refine sLoop (α := Nat) (fun i => i ≤ all.length) (fun i => ⟨tl [(4, .rowf 4), (5, .rowf 5), (6, .ptr 2 0 0), (54, encI all), (55, eI all.length), (56, eI (i : Int))], Ll [(1, .map .i64 (mE seen)), (2, .box 150 [.mp 1]), (4, .rows 3 1 (rI ((all.take i).filter fun h => decide (Rch cs l h)))), (5, .rows 3 1 (rI ((all.take i).filter fun h => !decide (Rch cs l h))))], 74, 6, [], none⟩) (fun i => all.length - i) 0
        (.trans (.adopt 4 4 3 1 rfl rfl (by decide)) (.trans (.adopt 5 5 3 1 rfl rfl (by decide)) (.keep _ _ _ _ ⟨rfl, rfl, rfl, rfl, trivial⟩ ⟨rfl, rfl, rfl, rfl, congrArg (fun n : Nat => eI n) hlen2, rfl, trivial⟩ rfl rfl))) (Nat.zero_le _) fun i hi => ?_
      repeat (first | (refine oR ?_; (conv => whnf)) | refine kOps ?_ | refine oNil ?_ | refine sSeq ?_ | refine sR ?_ | refine qSeqN ?_)
      refine sC rfl (fun g1 => ?_) (fun g1 => ?_)
      rotate_left
      · have hge : all.length ≤ i := by have := dF g1; omega
        rw [List.take_of_length_le hge]
        repeat (first | (refine oR ?_; (conv => whnf)) | refine kOps ?_ | refine oNil ?_ | refine sSeq ?_ | refine sR ?_ | refine qSeqN ?_ | refine sRet ?_ | refine sExit ?_ | refine qSeqE ?_ | refine qX ?_ | refine qLoopE ?_)
        refine qEnd ?_
        conv => whnf
        rfl
      have hlt : i < all.length := by have := dT g1; omega
      obtain ⟨x, hx⟩ : ∃ x, all[i]? = some x := ⟨_, List.getElem?_eq_getElem hlt⟩
      have hax := hfl x i hx
      have hbx := hfr x i hx
      have hai := ha i
      have hbi := hb i
      have hgx := hget x
      repeat (first | (refine oR ?_; (conv => whnf)) | refine sSeq ?_ | refine sR ?_ | refine qSeqN ?_ | refine sSkip ?_ | refine sBlk ?_)
      refine ⟨i, _, rfl, encI_get hx, ?_⟩
      conv => whnf
      repeat (first | (refine oR ?_; (conv => whnf)) | refine kOps ?_ | refine oNil ?_ | refine sSeq ?_ | refine sR ?_ | refine qSeqN ?_)
      by_cases hm : x ∈ seen
      · rw [if_pos hm] at hax hbx hgx
        refine ⟨_, hgx, ?_⟩
        conv => whnf
        repeat (first | (refine oR ?_; (conv => whnf)) | refine kOps ?_ | refine oNil ?_ | refine sR ?_ | refine qSeqN ?_ | refine sT ?_)
        refine ⟨by simp [oneC], roomI (by simp only [rI, List.length_map]; simp; omega), ?_⟩
        repeat (first | (refine oR ?_; (conv => whnf)) | refine kOps ?_ | refine oNil ?_ | refine sR ?_ | refine qSeqN ?_ | refine qBlkN ?_)
        exact qLoopN (i + 1) (.keep _ _ _ _ ⟨rfl, rfl, congrArg (Blk.rows 3 1) (by rw [hax]; simp [rI]), congrArg (Blk.rows 3 1) (by rw [hbx]), trivial⟩ ⟨rfl, rfl, rfl, rfl, rfl, congrArg eI (wrapS hlt hlb), trivial⟩ rfl rfl) hlt (by omega)
      · rw [if_neg hm] at hax hbx hgx
        refine ⟨_, hgx, ?_⟩
        conv => whnf
        repeat (first | (refine oR ?_; (conv => whnf)) | refine kOps ?_ | refine oNil ?_ | refine sR ?_ | refine qSeqN ?_ | refine sF ?_)
        refine ⟨by simp [oneC], roomI (by simp only [rI, List.length_map]; simp; omega), ?_⟩
        repeat (first | (refine oR ?_; (conv => whnf)) | refine kOps ?_ | refine oNil ?_ | refine sR ?_ | refine qSeqN ?_ | refine qBlkN ?_)
        exact qLoopN (i + 1) (.keep _ _ _ _ ⟨rfl, rfl, congrArg (Blk.rows 3 1) (by rw [hax]), congrArg (Blk.rows 3 1) (by rw [hbx]; simp [rI]), trivial⟩ ⟨rfl, rfl, rfl, rfl, rfl, congrArg eI (wrapS hlt hlb), trivial⟩ rfl rfl) hlt (by omega)
    | cons h q =>
      refine sC rfl (fun g1 => ?_) (fun g1 => ?_)
      rotate_left
      · exfalso
        have := dF g1
        simp at this
      have hol := outL_len hR h
      have hob : (outL cs h).length ≤ 1099511627776 := by omega
      have holn : ((outL cs h).map fun n => [eI n]).length = (outL cs h).length := List.length_map _
      repeat (first | (refine oR ?_; (conv => whnf)) | refine kOps ?_ | refine sSeq ?_ | refine sR ?_ | refine qSeqN ?_ | refine sSkip ?_ | refine sBlk ?_)
      (refine oCall rfl (.inl rfl) rfl rfl rfl (.fz [] _) rfl ⟨rfl, c_pop h q 24, ?_⟩; (conv => whnf))
      repeat (first | (refine oR ?_; (conv => whnf)) | refine kOps ?_ | refine oNil ?_ | refine sSeq ?_ | refine sR ?_ | refine qSeqN ?_)
      (refine oCall rfl (.inl rfl) rfl rfl rfl (.fz [] _) rfl ⟨rfl, c_out cs la sr h hR, ?_⟩; (conv => whnf))
      repeat (first | (refine oR ?_; (conv => whnf)) | refine kOps ?_ | refine oNil ?_ | refine qSeqN ?_ | refine sBlk ?_)
      refine sLoop (α := Nat × List Int × List Int) (fun a => a.1 ≤ (outL cs h).length ∧ Seen2 cs l h a.1 a.2.1 a.2.2 ∧ 2 * (24 - a.2.2.length) + a.2.1.length < 2 * (24 - seen.length) + (q.length + 1) ∧ ∀ x ∈ l, lv cs x = true → x ∈ a.2.2) (fun a => ⟨tl [(2, .vptr [encC cs, eI la, eI sr]), (4, .nilsl), (5, .nilsl), (6, .ptr 2 0 0), (7, .ptr 3 0 0), (8, .fn 101 [.vptr [encC cs, eI la, eI sr], .ptr 2 0 0, .ptr 3 0 0]), (43, encI (outL cs h)), (44, eI (outL cs h).length), (45, eI (a.1 : Int))], Ll [(1, .map .i64 (mE a.2.2)), (2, .box 150 [.mp 1]), (3, .box 152 [encI a.2.1, eI 24])], 74, 4, [], none⟩) (fun a => (outL cs h).length - a.1) (0, q, seen)
        (.keep _ _ _ _ ⟨rfl, rfl, rfl, trivial⟩ ⟨rfl, rfl, rfl, rfl, rfl, rfl, rfl, congrArg (fun n : Nat => eI n) holn, rfl, trivial⟩ rfl rfl) ⟨Nat.zero_le _, hS.two, by simp, hok⟩ fun b hb => ?_
      clear hS hok
      obtain ⟨k, q2, seen2⟩ := b
      obtain ⟨hk, hS, hlt, hok⟩ := hb
      simp only at hk hS hlt hok
      repeat (first | (refine oR ?_; (conv => whnf)) | refine kOps ?_ | refine oNil ?_ | refine sSeq ?_ | refine sR ?_ | refine qSeqN ?_)
      refine sC rfl (fun g2 => ?_) (fun g2 => ?_)
      · have hkl : k < (outL cs h).length := by have := dT g2; omega
        obtain ⟨x, hx⟩ : ∃ x, (outL cs h)[k]? = some x := ⟨_, List.getElem?_eq_getElem hkl⟩
        repeat (first | (refine oR ?_; (conv => whnf)) | refine sSeq ?_ | refine sR ?_ | refine qSeqN ?_ | refine sSkip ?_ | refine sBlk ?_)
        refine ⟨k, _, rfl, encI_get hx, ?_⟩
        conv => whnf
        repeat (first | (refine oR ?_; (conv => whnf)) | refine kOps ?_ | refine oNil ?_ | refine sR ?_ | refine qSeqN ?_)
        by_cases hs : lv cs x = true ∧ x ∉ seen2
        · have h24 := hS.lt hR hs.1 hs.2
          have hq : q2.length < 24 := by
            obtain ⟨old, ho, _⟩ := hS.qs
            rw [ho, List.length_append, List.length_cons] at h24
            omega
          refine oCall rfl (.inl rfl) rfl rfl rfl (.ef [2, 3, 1] (.tup []) (seeL (q2 ++ [x]) (seen2 ++ [x]))) rfl ⟨⟨rfl, rfl, rfl, rfl⟩, c_see_yes cs la sr x q2 seen2 hR hs.1 hs.2 hq, ?_⟩
          conv => whnf
          repeat (first | (refine oR ?_; (conv => whnf)) | refine kOps ?_ | refine oNil ?_ | refine sR ?_ | refine qSeqN ?_ | refine qBlkN ?_)
          refine qLoopN (k + 1, q2 ++ [x], seen2 ++ [x]) .kp ⟨hkl, hS.add hx hs.1 hs.2, ?_, fun y hy hv => List.mem_append.2 (.inl (hok y hy hv))⟩ (by show (outL cs h).length - (k + 1) < (outL cs h).length - k; omega)
          simp only [List.length_append, List.length_cons, List.length_nil]
          omega
        · have hs' : lv cs x = false ∨ x ∈ seen2 := by
            cases hv : lv cs x with
            | false => exact .inl rfl
            | true => exact .inr (Classical.byContradiction fun hn => hs ⟨hv, hn⟩)
          refine oCall rfl (.inl rfl) rfl rfl rfl (.ef [2, 3, 1] (.tup []) (seeL q2 seen2)) rfl ⟨⟨rfl, rfl, rfl, rfl⟩, c_see_no cs la sr x q2 seen2 hR hs', ?_⟩
          conv => whnf
          repeat (first | (refine oR ?_; (conv => whnf)) | refine kOps ?_ | refine oNil ?_ | refine sR ?_ | refine qSeqN ?_ | refine qBlkN ?_)
          exact qLoopN (k + 1, q2, seen2) .kp ⟨hkl, hS.skip hx hs', hlt, hok⟩ (by show (outL cs h).length - (k + 1) < (outL cs h).length - k; omega)
      · have hge : (outL cs h).length ≤ k := by have := dF g2; omega
        repeat (first | refine sExit ?_ | refine qSeqE ?_ | refine qBlkN ?_ | refine qX ?_ | refine qLoopE ?_)
        exact qLoopN (q2, seen2) .kp ⟨hS.one hge, hok⟩ (by show 2 * (24 - seen2.length) + q2.length < 2 * (24 - seen.length) + (q.length + 1); exact hlt)
end Go.Proofs.YtcmciimogcfakaaGreat

/- reach.From, Closed; fix.news. -/
set_option linter.unusedVariables false
set_option linter.unusedSimpArgs false
namespace Go.Proofs.YtcmciimogcfakaaGreat
open Go Go.RowKit
open Classical

theorem c_from8 (cs : List Ce) (la sr : Int) (l : List Int) (hR : Rs cs) (hl : l.length ≤ 1099511627776) (hlv : C Tryz.prog 35 [tS cs la sr] (encI (liveL cs))) : C Tryz.prog 59 [tS cs la sr, encI l] (encI (fromL cs l)) := by
  refine fnOk mixed tyOk Tryz.func59 (code := Tryz.f59.body.getD .skip) rfl rfl rfl (gC_in ?_)
  repeat (first | (refine oR ?_; (conv => whnf)) | refine kOps ?_ | refine oNil ?_ | refine sSeq ?_ | refine sR ?_ | refine qSeqN ?_)
  (refine oCall rfl (.inl rfl) rfl rfl rfl (.fz [] _) rfl ⟨rfl, c_split cs la sr l hR hl hlv, ?_⟩; (conv => whnf))
  repeat (first | (refine oR ?_; (conv => whnf)) | refine kOps ?_ | refine oNil ?_ | refine sSeq ?_ | refine sR ?_ | refine qSeqN ?_ | refine sRet ?_)
  refine qEnd ?_
  conv => whnf
  rfl
theorem fromL_len {cs : List Ce} (hR : Rs cs) (l : List Int) : (fromL cs l).length ≤ 24 := Nat.le_trans (List.length_filter_le _ _) (liveL_len hR)
theorem c_closed8 (cs : List Ce) (la sr : Int) (l : List Int) (hR : Rs cs) (hl : l.length ≤ 1099511627776) (hlv : C Tryz.prog 35 [tS cs la sr] (encI (liveL cs))) : C Tryz.prog 40 [tS cs la sr, encI l] (.bool (!decide (∃ x ∈ fromL cs l, x ∉ l))) := by
  refine fnOk mixed tyOk Tryz.func40 (code := Tryz.f40.body.getD .skip) rfl rfl rfl (gC_in ?_)
  have h24 := fromL_len hR l
  repeat (first | (refine oR ?_; (conv => whnf)) | refine kOps ?_ | refine oNil ?_ | refine sSeq ?_ | refine sR ?_ | refine qSeqN ?_)
  (refine oCall rfl (.inl rfl) rfl rfl rfl (.fz [] _) rfl ⟨rfl, c_from8 cs la sr l hR hl hlv, ?_⟩; (conv => whnf))
  repeat (first | (refine oR ?_; (conv => whnf)) | refine kOps ?_)
  (refine oCall rfl (.inl rfl) rfl rfl rfl (.fz [1] _) rfl ⟨rfl, c_containsf (fromL cs l) l hl (by omega), ?_⟩; (conv => whnf))
  repeat (first | (refine oR ?_; (conv => whnf)) | refine kOps ?_ | refine oNil ?_ | refine qSeqN ?_ | refine sRet ?_)
  refine qEnd ?_
  conv => whnf
  rfl
noncomputable def newP (cs : List Ce) (l : List Int) (q : Pr) : Bool := decide (q.1 ∈ l) && lv cs q.1 && lv cs q.2 && !decide (q.2 ∈ l)
noncomputable def newsL (cs : List Ce) (T : List Pl) (l : List Int) : List Int := ((pairsL T).filter (newP cs l)).map (·.2)
theorem c_news (cs : List Ce) (la sr : Int) (T : List Pl) (l : List Int) (hR : Rs cs) (hT : T.length ≤ 1099511627776) (hl : l.length ≤ 1099511627776) : CR Tryz.prog 39 [tS cs la sr, encT T, encI l] 3 1 (rI (newsL cs T l)) := by
  refine fnOkR mixed tyOk Tryz.func39 (code := Tryz.f39.body.getD .skip) rfl rfl rfl (gC_in ?_)
  have hpl := Nat.le_trans (pairsL_le T) hT
  have hn1 := fun h => c_news1 cs la sr h hR
  repeat (first | (refine oR ?_; (conv => whnf)) | refine kOps ?_ | refine oNil ?_ | refine sSeq ?_ | refine sR ?_ | refine qSeqN ?_)
  (refine oCall rfl (.inl rfl) rfl rfl rfl (.fz [] _) rfl ⟨rfl, c_prs T hT, ?_⟩; (conv => whnf))
  repeat (first | (refine oR ?_; (conv => whnf)) | refine kOps ?_ | refine oNil ?_ | refine qSeqN ?_ | refine sBlk ?_)
  unfold newsL
  generalize pairsL T = P at hpl ⊢
  have hlen : (P.map encP).length = P.length := List.length_map _
  refine sLoop (α := Nat) (fun i => i ≤ P.length) (fun i => ⟨tl [(2, encI l), (6, .rowf 1), (7, .fn 67 [.vptr [encC cs, eI la, eI sr]]), (12, encQ P), (13, eI P.length), (14, eI (i : Int))], Ll [(1, .rows 3 1 (rI (((P.take i).filter (newP cs l)).map (·.2))))], 48, 2, [], none⟩) (fun i => P.length - i) 0
    (.trans (.fz _ [0]) (.trans (.adopt 6 1 3 1 rfl rfl (by decide)) (.keep _ _ _ _ ⟨rfl, trivial⟩ ⟨rfl, rfl, rfl, rfl, congrArg (fun n : Nat => eI n) hlen, rfl, trivial⟩ rfl rfl))) (Nat.zero_le _) fun i hi => ?_
  repeat (first | (refine oR ?_; (conv => whnf)) | refine kOps ?_ | refine oNil ?_ | refine sSeq ?_ | refine sR ?_ | refine qSeqN ?_)
  refine sC rfl (fun h1 => ?_) (fun h1 => ?_)
  rotate_left
  · have hge : P.length ≤ i := by have := dF h1; omega
    rw [List.take_of_length_le hge]
    repeat (first | (refine oR ?_; (conv => whnf)) | refine kOps ?_ | refine oNil ?_ | refine sSeq ?_ | refine sR ?_ | refine qSeqN ?_ | refine sRet ?_ | refine sExit ?_ | refine qSeqE ?_ | refine qX ?_ | refine qLoopE ?_)
    refine qEndR ⟨_, .refl _, ?_⟩
    conv => whnf
    exact ⟨_, rfl, rfl⟩
  have hlt : i < P.length := by have := dT h1; omega
  obtain ⟨q, hq⟩ : ∃ q, P[i]? = some q := ⟨_, List.getElem?_eq_getElem hlt⟩
  have hk := filter_snoc (p := newP cs l) hq
  have hle := filter_len (newP cs l) P i
  repeat (first | (refine oR ?_; (conv => whnf)) | refine sSeq ?_ | refine sR ?_ | refine qSeqN ?_ | refine sSkip ?_ | refine sBlk ?_)
  refine ⟨i, _, rfl, encP_get hq, ?_⟩
  conv => whnf
  repeat (first | (refine oR ?_; (conv => whnf)) | refine kOps ?_ | refine oNil ?_ | refine sSeq ?_ | refine sR ?_ | refine qSeqN ?_)
  (refine oCall rfl (.inl rfl) rfl rfl rfl (.fz [] _) rfl ⟨rfl, c_contains6 l q.1 hl, ?_⟩; (conv => whnf))
  repeat (first | (refine oR ?_; (conv => whnf)) | refine kOps ?_)
  refine oS rfl rfl rfl (fun h2 => ?_) (fun h2 => ?_)
  · repeat (first | refine kOps ?_ | (refine oG ?_; (conv => whnf)))
    (refine oCall rfl (.inr ⟨_, _, _, rfl, rfl, rfl⟩) rfl rfl rfl (.fz [] _) rfl ⟨rfl, hn1 q.1, ?_⟩; (conv => whnf))
    repeat (first | (refine oR ?_; (conv => whnf)) | refine kOps ?_ | (refine sBT ?_; (conv => whnf)))
    refine oS rfl rfl rfl (fun h3 => ?_) (fun h3 => ?_)
    · repeat (first | refine kOps ?_ | (refine oG ?_; (conv => whnf)))
      (refine oCall rfl (.inr ⟨_, _, _, rfl, rfl, rfl⟩) rfl rfl rfl (.fz [] _) rfl ⟨rfl, hn1 q.2, ?_⟩; (conv => whnf))
      repeat (first | (refine oR ?_; (conv => whnf)) | refine kOps ?_ | (refine sBT ?_; (conv => whnf)))
      refine oS rfl rfl rfl (fun h4 => ?_) (fun h4 => ?_)
      · repeat (first | refine kOps ?_ | (refine oG ?_; (conv => whnf)))
        (refine oCall rfl (.inr ⟨_, _, _, rfl, rfl, rfl⟩) rfl rfl rfl (.fz [] _) rfl ⟨rfl, c_contains6 l q.2 hl, ?_⟩; (conv => whnf))
        repeat (first | (refine oR ?_; (conv => whnf)) | refine kOps ?_ | (refine oG ?_; (conv => whnf)) | refine oNil ?_ | refine qSeqN ?_ | (refine sBT ?_; (conv => whnf)))
        refine sC rfl (fun h5 => ?_) (fun h5 => ?_)
        · rw [if_pos (by rw [newP, h2, h3, h4]; simpa using h5)] at hk
          repeat (first | (refine oR ?_; (conv => whnf)) | refine kOps ?_ | refine sR ?_)
          refine ⟨by simp [oneC], roomI (by simp [rI]; omega), ?_⟩
          repeat (first | (refine oR ?_; (conv => whnf)) | refine kOps ?_ | refine oNil ?_ | refine sR ?_ | refine qSeqN ?_ | refine qBlkN ?_)
          exact qLoopN (i + 1) (.keep _ _ _ _ ⟨congrArg (Blk.rows 3 1) (by rw [hk]; simp [rI]), trivial⟩ ⟨rfl, rfl, rfl, rfl, rfl, congrArg eI (wrapS hlt hpl), trivial⟩ rfl rfl) hlt (by omega)
        · rw [if_neg (by rw [newP, h2, h3, h4]; simpa using h5)] at hk
          repeat (first | (refine oR ?_; (conv => whnf)) | refine kOps ?_ | refine oNil ?_ | refine sR ?_ | refine qSeqN ?_ | refine sSkip ?_ | refine qBlkN ?_)
          exact qLoopN (i + 1) (.keep _ _ _ _ ⟨congrArg (Blk.rows 3 1) (by rw [hk]), trivial⟩ ⟨rfl, rfl, rfl, rfl, rfl, congrArg eI (wrapS hlt hpl), trivial⟩ rfl rfl) hlt (by omega)
      · rw [if_neg (by simp [newP, h4])] at hk
        repeat (first | (refine oR ?_; (conv => whnf)) | refine kOps ?_ | refine oH ?_ | refine oNil ?_ | refine sR ?_ | refine qSeqN ?_ | refine sSkip ?_ | refine sF ?_ | refine qBlkN ?_ | (refine sBF ?_; (conv => whnf)))
        exact qLoopN (i + 1) (.keep _ _ _ _ ⟨congrArg (Blk.rows 3 1) (by rw [hk]), trivial⟩ ⟨rfl, rfl, rfl, rfl, rfl, congrArg eI (wrapS hlt hpl), trivial⟩ rfl rfl) hlt (by omega)
    · rw [if_neg (by simp [newP, h3])] at hk
      repeat (first | (refine oR ?_; (conv => whnf)) | refine kOps ?_ | refine oH ?_ | refine oNil ?_ | refine sR ?_ | refine qSeqN ?_ | refine sSkip ?_ | refine sF ?_ | refine qBlkN ?_ | (refine sBF ?_; (conv => whnf)))
      exact qLoopN (i + 1) (.keep _ _ _ _ ⟨congrArg (Blk.rows 3 1) (by rw [hk]), trivial⟩ ⟨rfl, rfl, rfl, rfl, rfl, congrArg eI (wrapS hlt hpl), trivial⟩ rfl rfl) hlt (by omega)
  · rw [if_neg (by rw [newP, h2]; simp)] at hk
    repeat (first | (refine oR ?_; (conv => whnf)) | refine kOps ?_ | refine oH ?_ | refine oNil ?_ | refine sR ?_ | refine qSeqN ?_ | refine sSkip ?_ | refine sF ?_ | refine qBlkN ?_ | (refine sBF ?_; (conv => whnf)))
    exact qLoopN (i + 1) (.keep _ _ _ _ ⟨congrArg (Blk.rows 3 1) (by rw [hk]), trivial⟩ ⟨rfl, rfl, rfl, rfl, rfl, congrArg eI (wrapS hlt hpl), trivial⟩ rfl rfl) hlt (by omega)
end Go.Proofs.YtcmciimogcfakaaGreat

/- fix.rounds. -/
set_option linter.unusedVariables false
set_option linter.unusedSimpArgs false
namespace Go.Proofs.YtcmciimogcfakaaGreat
open Go Go.RowKit
open Classical

noncomputable def nthP (cs : List Ce) (T : List Pl) (l : List Int) : Nat → List Int
  | 0 => fromL cs l
  | n + 1 => fromL cs (newsL cs T (nthP cs T l n) ++ nthP cs T l n)
theorem nthP_len {cs : List Ce} (hR : Rs cs) (T : List Pl) (l : List Int) : ∀ n, (nthP cs T l n).length ≤ 24
  | 0 => fromL_len hR l
  | n + 1 => fromL_len hR _
theorem newsL_len (cs : List Ce) (T : List Pl) (l : List Int) : (newsL cs T l).length ≤ T.length := by
  rw [newsL, List.length_map]
  exact Nat.le_trans (List.length_filter_le _ _) (pairsL_le T)
/-- The program's rounds end at N. -/
structure PN (cs : List Ce) (T : List Pl) (l : List Int) (N : Nat) : Prop where
  lt : N < 30
  ne : ∀ n, n < N → newsL cs T (nthP cs T l n) ≠ []
  eq : newsL cs T (nthP cs T l N) = []
set_option maxRecDepth 100000 in
theorem c_prounds (cs : List Ce) (la sr : Int) (T : List Pl) (l : List Int) (hR : Rs cs) (h8 : T.length ≤ 8) (hl : l.length ≤ 1099511627776) (hlv : C Tryz.prog 35 [tS cs la sr] (encI (liveL cs))) {N : Nat} (hN : PN cs T l N) : C Tryz.prog 32 [tS cs la sr, encT T, encI l] (.tup [encI (nthP cs T l N), eI (N : Int)]) := by
  refine fnOk mixed tyOk Tryz.func32 (code := Tryz.f32.body.getD .skip) rfl rfl rfl (gC_in ?_)
  repeat (first | (refine oR ?_; (conv => whnf)) | refine kOps ?_ | refine oNil ?_ | refine sSeq ?_ | refine sR ?_ | refine qSeqN ?_ | refine sScope ?_)
  (refine oCall rfl (.inl rfl) rfl rfl rfl (.fz [] _) rfl ⟨rfl, c_from8 cs la sr l hR hl hlv, ?_⟩; (conv => whnf))
  repeat (first | (refine oR ?_; (conv => whnf)) | refine kOps ?_ | refine oNil ?_ | refine sSeq ?_ | refine qSeqN ?_ | refine sBlk ?_ | refine sLabel ?_)
  refine sLoop (α := Nat) (fun n => n ≤ N) (fun n => ⟨tl [(1, encT T), (3, .ptr 0 0 0), (6, encI (nthP cs T l n)), (7, eI (n : Int))], Ll [(0, .box 26 [encC cs, eI la, eI sr])], 28, 1, [], none⟩) (fun n => N - n) 0 .kp (Nat.zero_le _) fun n hn => ?_
  have h24 := nthP_len hR T l n
  have hnl := newsL_len cs T (nthP cs T l n)
  have hnx : nthP cs T l (n + 1) = fromL cs (newsL cs T (nthP cs T l n) ++ nthP cs T l n) := rfl
  have hne := hN.ne n
  have heq := hN.eq
  have h30 := hN.lt
  have hcn := c_news cs la sr T (nthP cs T l n) hR (by omega) (by omega)
  have hf := c_from8 cs la sr (newsL cs T (nthP cs T l n) ++ nthP cs T l n) hR (by rw [List.length_append]; omega) hlv
  rw [← hnx, encI, List.map_append] at hf
  generalize hse2 : nthP cs T l (n + 1) = nxt at *
  generalize hnw : newsL cs T (nthP cs T l n) = nw at *
  generalize hse : nthP cs T l n = out at *
  repeat (first | (refine oR ?_; (conv => whnf)) | refine kOps ?_ | refine sSeq ?_ | refine sR ?_ | refine sBlk ?_)
  refine oCall rfl (.inl rfl) rfl rfl rfl (.nw [] 3 1 (rI nw)) rfl ⟨⟨rfl, rfl⟩, hcn, ?_⟩
  conv => whnf
  repeat (first | (refine oR ?_; (conv => whnf)) | refine kOps ?_ | refine oNil ?_ | refine sSeq ?_ | refine sR ?_ | refine qSeqN ?_)
  refine sC rfl (fun h1 => ?_) (fun h1 => ?_)
  · have h1 : nw = [] := by
      have := dT h1 <;> simp [rI] at h1
      exact h1
    have e : n = N := by
      rcases Nat.lt_or_ge n N with h | h
      · exact absurd h1 (hne h)
      · omega
    subst e
    repeat (first | (refine oR ?_; (conv => whnf)) | refine kOps ?_ | refine oNil ?_ | refine sSeq ?_ | refine sR ?_ | refine qSeqN ?_ | refine sRet ?_ | refine sExit ?_ | refine qSeqE ?_ | refine qScR ?_ | refine qX ?_ | refine qY ?_ | refine qLoopE ?_)
    refine qEnd ?_
    conv => whnf
    rw [hse]
    rfl
  · have h1 : ¬ nw = [] := fun he => by simp [he, rI] at h1
    have hlt : n < N := by
      rcases Nat.lt_or_ge n N with h | h
      · exact h
      · have e : n = N := by omega
        subst e
        exact absurd (hnw.symm.trans (by rw [← hse]; exact heq)) h1
    have hNb : N ≤ 1099511627776 := by omega
    repeat (first | refine sSeq ?_ | refine qSeqN ?_ | refine sSkip ?_)
    refine sDt [3, 4, 5] ?_
    repeat (first | refine g3skip ?_ | (apply g3run; exact rfl; exact rfl; exact .inl rfl; (conv => whnf); exact .mk rfl) | refine g3nil ?_ | refine kT ?_ | (apply gTrun; exact rfl; exact rfl; exact rfl; (conv => whnf)))
    refine ⟨ones1 out, roomI (by simp [rI]; omega), ?_⟩
    conv => whnf
    repeat (first | (apply gRcons; exact rfl; exact rfl; exact rfl; (conv => whnf); exact .mk rfl) | exact gRnil | exact KEq.mk rfl | (apply gTrun; exact rfl; exact rfl; exact rfl; (conv => whnf)))
    (refine ⟨.fz [1] _, rfl, hf, ?_⟩; (conv => whnf); exact .mk rfl)
    repeat (first | (refine oR ?_; (conv => whnf)) | refine kOps ?_ | refine oNil ?_ | refine sR ?_ | refine qSeqN ?_ | refine qBlkN ?_ | (apply gTrun; exact rfl; exact rfl; exact rfl; (conv => whnf); exact .mk rfl) | exact gRnil | refine gTnil ?_)
    refine qLoopN (n + 1) ?_ (show n + 1 ≤ N by omega) (by omega)
    simp only [hse2]
    exact .kp
end Go.Proofs.YtcmciimogcfakaaGreat
