/- Regions that draw their order: operations that only yield values. -/
import Derived.Test.YtcfbhojpemjjpaaB
import Derived.OrdersIn
set_option linter.unusedVariables false
set_option linter.unusedSimpArgs false
namespace Go.Proofs.Ytcfbhojpemjjpaa
open Go Go.RowKit

section
variable {P : Program} {Γ : Nat → Option TI} {np : Nat} {o : Oper} {ρ ρ' : Operand → AV} {L : Nat → Blk} {j : Nat} {k : Eff → Prop}
theorem bldL_congr {fs : List (Nat × Nat)} {k : List AV → Prop} : ∀ (ps : List (Nat × Operand)) (cs : List AV), (∀ p ∈ ps, ρ' p.2 = ρ p.2) → bldL fs ρ' ps cs k = bldL fs ρ ps cs k
  | [], cs, _ => rfl
  | (f, x) :: ps, cs, h => by
    have h1 := h (f, x) (by simp)
    simp only at h1
    simp only [bldL, h1]
    have ih := fun cs => bldL_congr (fs := fs) (k := k) ps cs fun p hp => h p (by simp [hp])
    simp only [ih]
theorem bldS_congr {z : List AV} {k : List (List AV) → Prop} : ∀ (ps : List (Nat × Operand)) (xs : List (List AV)), (∀ p ∈ ps, ρ' p.2 = ρ p.2) → bldS z ρ' ps xs k = bldS z ρ ps xs k
  | [], xs, _ => rfl
  | (f, x) :: ps, xs, h => by
    have h1 := h (f, x) (by simp)
    simp only at h1
    simp only [bldS, h1]
    have ih := fun xs => bldS_congr (z := z) (k := k) ps xs fun p hp => h p (by simp [hp])
    simp only [ih]
theorem map_congr {l : List Operand} (h : ∀ x ∈ l, ρ' x = ρ x) : l.map ρ' = l.map ρ := List.map_congr_left h
theorem opt_congr {l : Option Operand} (h : ∀ x ∈ l.toArray, ρ' x = ρ x) : l.map ρ' = l.map ρ := by
  cases l with
  | none => rfl
  | some x => rw [Option.map_some, Option.map_some, h x (by simp)]
theorem vcE_congr (h : ∀ x ∈ o.op.operands, ρ' x = ρ x) : vcE P Γ np o ρ' L j k = vcE P Γ np o ρ L j k := by
  cases ho : o.op with
  | move x => have h1 := h x (by simp [ho, Op.operands]); simp only [vcE, ho, h1]
  | assign x => have h1 := h x (by simp [ho, Op.operands]); simp only [vcE, ho, h1]
  | pick x y z => have h1 := h x (by simp [ho, Op.operands]); have h2 := h y (by simp [ho, Op.operands]); have h3 := h z (by simp [ho, Op.operands]); simp only [vcE, ho, h1, h2, h3]
  | alloc t => simp only [vcE, ho]
  | box t x => have h1 := h x (by simp [ho, Op.operands]); simp only [vcE, ho, h1]
  | load t x => have h1 := h x (by simp [ho, Op.operands]); simp only [vcE, ho, h1]
  | store t x y => have h1 := h x (by simp [ho, Op.operands]); have h2 := h y (by simp [ho, Op.operands]); simp only [vcE, ho, h1, h2]
  | nilCheck x => have h1 := h x (by simp [ho, Op.operands]); simp only [vcE, ho, h1]
  | binOp op t x y t' => have h1 := h x (by simp [ho, Op.operands]); have h2 := h y (by simp [ho, Op.operands]); simp only [vcE, ho, h1, h2]
  | unOp op t x => have h1 := h x (by simp [ho, Op.operands]); simp only [vcE, ho, h1]
  | convert s d x => have h1 := h x (by simp [ho, Op.operands]); simp only [vcE, ho, h1]
  | makeFunc f fs cs =>
    have h1 := map_congr (l := cs.toList) fun x hx => h x (by simp only [ho, Op.operands]; exact Array.mem_append.2 (.inr (by simpa using hx)))
    cases f <;> simp only [vcE, ho, h1]
  | makeMap t r => cases r <;> simp only [vcE, ho]
  | makeSlice t x y => have h1 := h x (by simp [ho, Op.operands]); have h2 := h y (by simp [ho, Op.operands]); simp only [vcE, ho, h1, h2]
  | buildSlice t n ps =>
    simp only [vcE, ho]
    have h1 := fun (z : List AV) (k : List (List AV) → Prop) xs => bldS_congr (ρ := ρ) (ρ' := ρ') (z := z) (k := k) ps.toList xs fun p hp => h p.2 (by simp only [ho, Op.operands]; simpa using ⟨p.1, by simpa using hp⟩)
    simp only [h1]
  | build t ps =>
    simp only [vcE, ho]
    have h1 := fun (fs : List (Nat × Nat)) (k : List AV → Prop) cs => bldL_congr (ρ := ρ) (ρ' := ρ') (fs := fs) (k := k) ps.toList cs fun p hp => h p.2 (by simp only [ho, Op.operands]; simpa using ⟨p.1, by simpa using hp⟩)
    simp only [h1]
  | fieldAddr t x f => have h1 := h x (by simp [ho, Op.operands]); simp only [vcE, ho, h1]
  | indexAddr t x y => have h1 := h x (by simp [ho, Op.operands]); have h2 := h y (by simp [ho, Op.operands]); simp only [vcE, ho, h1, h2]
  | index t x y => have h1 := h x (by simp [ho, Op.operands]); have h2 := h y (by simp [ho, Op.operands]); simp only [vcE, ho, h1, h2]
  | slice t x lo hi mx =>
    have h1 := h x (by simp [ho, Op.operands])
    have h2 := opt_congr (l := lo) fun x hx => h x (by simp only [ho, Op.operands, Array.mem_append]; exact .inl (.inl (.inr hx)))
    have h3 := opt_congr (l := hi) fun x hx => h x (by simp only [ho, Op.operands, Array.mem_append]; exact .inl (.inr hx))
    have h4 : ∀ m, mx = some m → ρ' m = ρ m := fun m hm => h m (by simp only [ho, Op.operands, Array.mem_append]; exact .inr (by simp [hm]))
    cases mx with
    | none => simp only [vcE, ho, h1, h2, h3]
    | some m => simp only [vcE, ho, h1, h2, h3, h4 m rfl]
  | lookup t m x ok => have h1 := h m (by simp [ho, Op.operands]); have h2 := h x (by simp [ho, Op.operands]); simp only [vcE, ho, h1, h2]
  | mapUpdate t m x y => have h1 := h m (by simp [ho, Op.operands]); have h2 := h x (by simp [ho, Op.operands]); have h3 := h y (by simp [ho, Op.operands]); simp only [vcE, ho, h1, h2, h3]
  | extract x n => have h1 := h x (by simp [ho, Op.operands]); simp only [vcE, ho, h1]
  | call cl =>
    have hargs : ∀ x ∈ cl.args.toList, ρ' x = ρ x := fun x hx => h x (by simp only [ho, Op.operands, Call.operands]; exact Array.mem_append.2 (.inr (by simpa using hx)))
    have h1 := map_congr hargs
    cases hcl : cl.callee with
    | value f =>
      have h2 := h f (by simp [ho, Op.operands, Call.operands, hcl])
      simp only [vcE, ho, hcl, h1, h2]
    | builtin b =>
      simp only [vcE, ho, hcl]
      generalize cl.args.toList = as at hargs
      rcases as with _ | ⟨x, _ | ⟨y, _ | ⟨z, as⟩⟩⟩
      · cases b <;> rfl
      · have e1 := hargs x (by simp)
        cases b <;> simp only [e1]
      · have e1 := hargs x (by simp)
        have e2 := hargs y (by simp)
        generalize cl.argTypes.toList = ts
        rcases ts with _ | ⟨t, _ | ⟨t', _ | ⟨t'', ts⟩⟩⟩ <;> cases b <;> simp only [e1, e2]
      · cases b <;> rfl
    | _ => simp only [vcE, ho, hcl]
  | _ => simp only [vcE, ho]
end

def preds (o : Oper) : List Nat := (o.after.toList.filter fun e => Region.binds .any e).map (·.on)
def uni : List Nat → List Nat → List Nat
  | [], m => m
  | a :: l, m => uni l (bif memB m a then m else a :: m)
theorem uni_mem {x : Nat} : ∀ (l m : List Nat), x ∈ uni l m → x ∈ l ∨ x ∈ m
  | [], m, h => .inr h
  | a :: l, m, h => by
    rcases uni_mem l _ h with h | h
    · exact .inl (by simp [h])
    · cases hb : memB m a with
      | true => rw [hb] at h; exact .inr h
      | false =>
        rw [hb] at h
        rcases List.mem_cons.1 h with rfl | h
        · exact .inl (by simp)
        · exact .inr h
/-- The first comes before the second in every order. -/
inductive Anc (ops : List Oper) : Nat → Nat → Prop
  | edge {i j : Nat} {o : Oper} (ho : ops[i]? = some o) (hj : j ∈ preds o) : Anc ops j i
  | step {i j m : Nat} {o : Oper} (ho : ops[i]? = some o) (hm : m ∈ preds o) (h : Anc ops j m) : Anc ops j i
def anc1 (acc : List (List Nat)) (o : Oper) : List Nat := (preds o).foldl (fun m j => uni (j :: acc.getD j []) m) []
def ancs : List Oper → List (List Nat) → List (List Nat)
  | [], acc => acc
  | o :: l, acc => ancs l (acc ++ [anc1 acc o])
theorem anc1_mem {acc : List (List Nat)} {o : Oper} {x : Nat} (h : x ∈ anc1 acc o) : ∃ j ∈ preds o, x = j ∨ x ∈ acc.getD j [] := by
  have key : ∀ (l : List Nat) (m : List Nat), x ∈ l.foldl (fun m j => uni (j :: acc.getD j []) m) m → x ∈ m ∨ ∃ j ∈ l, x = j ∨ x ∈ acc.getD j [] := by
    intro l
    induction l with
    | nil => intro m h; exact .inl h
    | cons j l ih =>
      intro m h
      rcases ih _ h with h | ⟨i, hi, h⟩
      · rcases uni_mem _ _ h with h | h
        · exact .inr ⟨j, by simp, List.mem_cons.1 h⟩
        · exact .inl h
      · exact .inr ⟨i, by simp [hi], h⟩
  rcases key _ _ h with h | h
  · cases h
  · exact h
theorem ancs_sound (all : List Oper) : ∀ (l pre : List Oper) (acc : List (List Nat)), pre ++ l = all → acc.length = pre.length → (∀ i x, x ∈ acc.getD i [] → Anc all x i) → ∀ i x, x ∈ (ancs l acc).getD i [] → Anc all x i
  | [], pre, acc, hp, hl, h => h
  | o :: l, pre, acc, hp, hl, h => by
    refine ancs_sound all l (pre ++ [o]) (acc ++ [anc1 acc o]) (by simpa using hp) (by simp [hl]) fun i x hx => ?_
    rw [List.getD_eq_getElem?_getD] at hx
    by_cases hi : i < acc.length
    · rw [List.getElem?_append_left hi, ← List.getD_eq_getElem?_getD] at hx
      exact h i x hx
    · rw [List.getElem?_append_right (by omega)] at hx
      by_cases hi' : i = acc.length
      · rw [hi', Nat.sub_self] at hx
        have ho : all[i]? = some o := by
          rw [← hp, hi', hl]
          simp
        obtain ⟨j, hj, hx⟩ := anc1_mem (by simpa using hx)
        rcases hx with rfl | hx
        · exact .edge ho hj
        · exact .step ho hj (h j x hx)
      · rw [List.getElem?_eq_none (by simp; omega)] at hx
        simp at hx
def looks (all : List Oper) (o : Oper) : List Nat := (o.op.operands.toList.filterMap fun x => match x with | .tmp t => some t | _ => none) ++ (match o.guard with | some (j, _) => (dstIn all j).toList | none => [])
def apartB (all : List Oper) (x y : Oper) : Bool :=
  (match x.dst with | some d => !memB (looks all y) d && (match y.dst with | some d' => !Nat.beq d d' | none => true) | none => true) && (match y.dst with | some d => !memB (looks all x) d | none => true)
def pairsOk (all : List Oper) (an : List (List Nat)) : List (Oper × Nat) → Bool
  | [] => true
  | (x, i) :: l => l.all (fun (y, j) => memB (an.getD j []) i || apartB all x y) && pairsOk all an l
def drawOk (all : List Oper) : Bool := pairsOk all (ancs all []) (all.zipIdx 0)
theorem pairs_get (all : List Oper) (an : List (List Nat)) : ∀ (l : List Oper) (n : Nat), pairsOk all an (l.zipIdx n) = true → ∀ i j x y, i < j → l[i]? = some x → l[j]? = some y → (memB (an.getD (n + j) []) (n + i) || apartB all x y) = true
  | [], n, _, i, j, x, y, _, hx, _ => by simp at hx
  | o :: l, n, h, i, j, x, y, hij, hx, hy => by
    simp only [List.zipIdx_cons, pairsOk, Bool.and_eq_true] at h
    obtain ⟨j, rfl⟩ : ∃ j', j = j' + 1 := ⟨j - 1, by omega⟩
    simp only [List.getElem?_cons_succ] at hy
    cases i with
    | zero =>
      simp only [List.getElem?_cons_zero, Option.some.injEq] at hx
      subst hx
      have hm : (y, n + 1 + j) ∈ l.zipIdx (n + 1) := by
        rw [List.mem_iff_getElem?]
        exact ⟨j, by rw [List.getElem?_zipIdx, hy]; rfl⟩
      have := List.all_eq_true.1 h.1 _ hm
      simp only at this
      rw [show n + (j + 1) = n + 1 + j by omega, Nat.add_zero]
      exact this
    | succ i =>
      simp only [List.getElem?_cons_succ] at hx
      have := pairs_get all an l (n + 1) h.2 i j x y (by omega) hx hy
      rw [show n + (j + 1) = n + 1 + j by omega, show n + (i + 1) = n + 1 + i by omega]
      exact this
theorem drawOk_pair {all : List Oper} (h : drawOk all = true) {i j : Nat} {x y : Oper} (hij : i < j) (hx : all[i]? = some x) (hy : all[j]? = some y) : Anc all i j ∨ apartB all x y = true := by
  have := pairs_get all _ all 0 h i j x y hij hx hy
  simp only [Nat.zero_add, Bool.or_eq_true] at this
  rcases this with h | h
  · exact .inl (ancs_sound all all [] [] rfl rfl (fun i x hx => by simp at hx) j i ((memB_iff _ _).1 h))
  · exact .inr h
theorem apartB_spec {all : List Oper} {x y : Oper} (h : apartB all x y = true) : (∀ d, x.dst = some d → d ∉ looks all y ∧ y.dst ≠ some d) ∧ ∀ d, y.dst = some d → d ∉ looks all x := by
  unfold apartB at h
  rw [Bool.and_eq_true] at h
  refine ⟨fun d hd => ?_, fun d hd => ?_⟩
  · have h := h.1
    rw [hd] at h
    simp only [Bool.and_eq_true, Bool.not_eq_true'] at h
    refine ⟨fun hm => (by rw [(memB_iff _ _).2 hm] at h; cases h.1), fun hy => ?_⟩
    have h2 := h.2
    rw [hy] at h2
    simp at h2
  · have h := h.2
    rw [hd] at h
    simp only [Bool.not_eq_true'] at h
    intro hm
    rw [(memB_iff _ _).2 hm] at h
    cases h

section
variable (P : Program) (Γ : Nat → Option TI)
def plainE (e : Eff) (v : AV) : Prop := e = { v := v, rd := e.rd }
/-- What a region asks whose order is drawn: of its operations, in the text's order, each a value. -/
noncomputable def vcD1 (all l : List Oper) : St → (St → Prop) → Prop :=
  List.rec (motive := fun _ => St → (St → Prop) → Prop) (fun s k => k s) (fun o _ ih s k => match dstOk s.nt o.dst with
    | false => False
    | true => vcG (dstIn all) o s
      (fun s => ∃ v, vcE P Γ 0 o s.ev s.L s.nx (fun e => plainE e v) ∧ ih { s with t := putT s.t o.dst v } k)
      (fun s => ih (s.skip o.dst) k)) l
theorem vcD1_cons (all : List Oper) (o : Oper) (l : List Oper) (s : St) (k : St → Prop) : vcD1 P Γ all (o :: l) s k = match dstOk s.nt o.dst with
    | false => False
    | true => vcG (dstIn all) o s
      (fun s => ∃ v, vcE P Γ 0 o s.ev s.L s.nx (fun e => plainE e v) ∧ vcD1 P Γ all l { s with t := putT s.t o.dst v } k)
      (fun s => vcD1 P Γ all l (s.skip o.dst) k) := rfl
/-- The operation, at these slots, yields v. -/
def Gives (all : List Oper) (s : St) (o : Oper) (t : Nat → AV) (v : AV) : Prop :=
  dstOk s.nt o.dst = true ∧ match o.guard with
  | none => vcE P Γ 0 o { s with t := t }.ev s.L s.nx (fun e => plainE e v)
  | some (j, w) => ∃ d, dstIn all j = some d ∧ ((t d = .bool w ∧ vcE P Γ 0 o { s with t := t }.ev s.L s.nx (fun e => plainE e v)) ∨ (t d = .bool (!w) ∧ v = .und) ∨ (t d = .und ∧ v = .und))
def Runs (all : List Oper) (s : St) : List Oper → (Nat → AV) → List AV → Prop
  | [], _, vs => vs = []
  | o :: l, t, v :: vs => Gives P Γ all s o t v ∧ Runs all s l (putT t o.dst v) vs
  | _ :: _, _, [] => False
end
def fin : List Oper → (Nat → AV) → List AV → Nat → AV
  | o :: l, t, v :: vs => fin l (putT t o.dst v) vs
  | _, t, _ => t
section
variable {P : Program} {Γ : Nat → Option TI}
theorem st_lit {s : St} {d : Nat} {v : AV} (h : s.t d = v) : ({ s with t := upd s.t d v } : St) = s := by rw [upd_self h]
theorem vcD1_runs (all : List Oper) (s0 : St) {k : St → Prop} : ∀ (l : List Oper) (s : St), { s with t := s0.t } = s0 → vcD1 P Γ all l s k → ∃ vs, Runs P Γ all s0 l s.t vs ∧ k { s0 with t := fin l s.t vs }
  | [], s, hs, h => by
    refine ⟨[], rfl, ?_⟩
    have : ({ s0 with t := fin [] s.t [] } : St) = s := by rw [← hs]; rfl
    rw [this]; exact h
  | o :: l, s, hs, h => by
    have hst : s = { s0 with t := s.t } := by rw [← hs]
    have hnt : s.nt = s0.nt := by rw [← hs]
    have hL : s.L = s0.L := by rw [← hs]
    have hnx : s.nx = s0.nx := by rw [← hs]
    rw [vcD1_cons] at h
    split at h
    · exact h.elim
    · rename_i hdo
      rw [hnt] at hdo
      have run : (∃ v, vcE P Γ 0 o s.ev s.L s.nx (fun e => plainE e v) ∧ vcD1 P Γ all l { s with t := putT s.t o.dst v } k) → (∀ v, vcE P Γ 0 o { s0 with t := s.t }.ev s0.L s0.nx (fun e => plainE e v) → Gives P Γ all s0 o s.t v) → ∃ vs, Runs P Γ all s0 (o :: l) s.t vs ∧ k { s0 with t := fin (o :: l) s.t vs } := fun ⟨v, h1, h2⟩ hg => by
        obtain ⟨vs, h3, h4⟩ := vcD1_runs all s0 l { s with t := putT s.t o.dst v } (by rw [← hs]) h2
        refine ⟨v :: vs, ⟨hg v ?_, h3⟩, h4⟩
        rw [← hst, ← hL, ← hnx]
        exact h1
      have skip : vcD1 P Γ all l (s.skip o.dst) k → Gives P Γ all s0 o s.t .und → ∃ vs, Runs P Γ all s0 (o :: l) s.t vs ∧ k { s0 with t := fin (o :: l) s.t vs } := fun h2 hg => by
        have e : s.skip o.dst = { s with t := putT s.t o.dst .und } := by cases o.dst <;> rfl
        rw [e] at h2
        obtain ⟨vs, h3, h4⟩ := vcD1_runs all s0 l { s with t := putT s.t o.dst .und } (by rw [← hs]) h2
        exact ⟨.und :: vs, ⟨hg, h3⟩, h4⟩
      unfold vcG at h
      split at h
      · rename_i hg
        refine run h fun v hv => ⟨hdo, ?_⟩
        rw [hg]
        exact hv
      · rename_i j w hg
        split at h
        · rename_i d hd
          rw [frc_eq] at h
          split at h
          · rename_i t ht
            rw [splitB_eq] at h
            split at h
            · rw [st_lit ht] at h
              exact run h fun v hv => ⟨hdo, by rw [hg]; exact ⟨d, hd, .inl ⟨ht, hv⟩⟩⟩
            · rw [st_lit ht] at h
              exact run h fun v hv => ⟨hdo, by rw [hg]; exact ⟨d, hd, .inl ⟨ht, hv⟩⟩⟩
            · rw [st_lit ht] at h
              exact skip h ⟨hdo, by rw [hg]; exact ⟨d, hd, .inr (.inl ⟨ht, rfl⟩)⟩⟩
            · rw [st_lit ht] at h
              exact skip h ⟨hdo, by rw [hg]; exact ⟨d, hd, .inr (.inl ⟨ht, rfl⟩)⟩⟩
          · rename_i ht
            exact skip h ⟨hdo, by rw [hg]; exact ⟨d, hd, .inr (.inr ⟨ht, rfl⟩)⟩⟩
          · exact h.elim
        · exact h.elim
end
def tv (ops : List Oper) (v : Nat → AV) (lst : Nat → Bool) (t0 : Nat → AV) : Nat → Nat → AV
  | 0 => t0
  | m + 1 => match lst m with
    | true => putT (tv ops v lst t0 m) (dstIn ops m) (v m)
    | false => tv ops v lst t0 m
theorem putT_ne {t : Nat → AV} {d : Option Nat} {v : AV} {x : Nat} (h : d ≠ some x) : putT t d v x = t x := by
  cases d with
  | none => rfl
  | some d => exact upd_ne _ _ fun he => h (by rw [he])
theorem tv_agree {ops : List Oper} {v : Nat → AV} {lst lst' : Nat → Bool} {t0 : Nat → AV} {x : Nat} : ∀ (m : Nat), (∀ j, j < m → dstIn ops j = some x → lst j = lst' j) → tv ops v lst t0 m x = tv ops v lst' t0 m x
  | 0, _ => rfl
  | m + 1, h => by
    have ih := tv_agree (ops := ops) (v := v) (lst := lst) (lst' := lst') (t0 := t0) (x := x) m fun j hj => h j (by omega)
    by_cases hd : dstIn ops m = some x
    · have := h m (by omega) hd
      simp only [tv, ← this]
      cases lst m with
      | false => exact ih
      | true => simp [hd, putT, upd_same]
    · simp only [tv]
      cases lst m <;> cases lst' m <;> simp only [putT_ne hd, ih]
theorem tv_stop {ops : List Oper} {v : Nat → AV} {lst : Nat → Bool} {t0 : Nat → AV} {x : Nat} {i : Nat} : ∀ (m : Nat), i ≤ m → (∀ j, i ≤ j → j < m → lst j = true → dstIn ops j ≠ some x) → tv ops v lst t0 m x = tv ops v lst t0 i x
  | 0, hi, _ => by obtain rfl : i = 0 := by omega
                   rfl
  | m + 1, hi, h => by
    by_cases him : i = m + 1
    · rw [him]
    · have ih := tv_stop (ops := ops) (v := v) (lst := lst) (t0 := t0) (x := x) m (by omega) fun j h1 h2 => h j h1 (by omega)
      rw [← ih]
      have := h m (by omega) (by omega)
      simp only [tv]
      cases hl : lst m with
      | false => rfl
      | true => exact putT_ne (this hl)
theorem tv_cons (o : Oper) (l : List Oper) (x : AV) (vs : List AV) (t : Nat → AV) : ∀ m, tv (o :: l) (fun i => (x :: vs).getD i .any) (fun _ => true) t (m + 1) = tv l (fun i => vs.getD i .any) (fun _ => true) (putT t o.dst x) m
  | 0 => rfl
  | m + 1 => by
    have ih := tv_cons o l x vs t m
    show putT (tv (o :: l) _ _ t (m + 1)) (dstIn (o :: l) (m + 1)) _ = putT (tv l _ _ _ m) (dstIn l m) _
    rw [ih]
    rfl
section
variable {P : Program} {Γ : Nat → Option TI}
theorem runs_get (all : List Oper) (s0 : St) : ∀ (l : List Oper) (t : Nat → AV) (vs : List AV), Runs P Γ all s0 l t vs → (∀ i o, l[i]? = some o → Gives P Γ all s0 o (tv l (fun i => vs.getD i .any) (fun _ => true) t i) (vs.getD i .any)) ∧ fin l t vs = tv l (fun i => vs.getD i .any) (fun _ => true) t l.length
  | [], t, vs, h => ⟨fun i o h => (by simp at h), (by cases h; rfl)⟩
  | o :: l, t, [], h => h.elim
  | o :: l, t, v :: vs, h => by
    obtain ⟨h1, h2⟩ := h
    obtain ⟨g1, g2⟩ := runs_get all s0 l _ vs h2
    refine ⟨fun i o' ho => ?_, ?_⟩
    · cases i with
      | zero => simp at ho; subst ho; exact h1
      | succ i =>
        rw [tv_cons]
        exact g1 i o' (by simpa using ho)
    · show fin l _ vs = _
      rw [List.length_cons, tv_cons]
      exact g2
theorem gives_congr {all : List Oper} {s : St} {o : Oper} {t t' : Nat → AV} {v : AV} (h : Gives P Γ all s o t v) (ht : ∀ x ∈ looks all o, t' x = t x) : Gives P Γ all s o t' v := by
  have hev : ∀ x ∈ o.op.operands, ({ s with t := t' } : St).ev x = ({ s with t := t } : St).ev x := fun x hx => by
    cases x with
    | tmp d => exact ht d (List.mem_append.2 (.inl (List.mem_filterMap.2 ⟨.tmp d, by simpa using hx, rfl⟩)))
    | _ => rfl
  refine ⟨h.1, ?_⟩
  have h2 := h.2
  cases hg : o.guard with
  | none =>
    rw [hg] at h2
    simp only at h2 ⊢
    rw [vcE_congr hev]
    exact h2
  | some p =>
    obtain ⟨j, w⟩ := p
    rw [hg] at h2
    simp only at h2 ⊢
    obtain ⟨d, hd, h2⟩ := h2
    have hx := ht d (List.mem_append.2 (.inr (by rw [hg]; simp [hd])))
    refine ⟨d, hd, ?_⟩
    rw [hx, vcE_congr hev]
    exact h2
variable {T : Option Nat → Cx → Prop} {base : Option Nat} {G : List Value} {ρ : Option Nat} {n : Nat}
theorem gives_wp (hT : TyOk P Γ) (hst : Stable T) {all : List Oper} {s : St} {o : Oper} {t : Nat → AV} {v : AV} {c : Cx} {a : Act} (h : Gives P Γ all s o t v) (hs : Sim T base G { s with t := t } c a) {K : Act → World → Prop} {Q : Exit → Act → World → Prop} {i : Nat} (ho : all[i]? = some o)
    (hK : ∀ d u, Sim T base G { s with t := putT t o.dst v } d (a.put o.dst u) → K (a.put o.dst u) d.w) : wpOpIn (Fx ρ) n P all.toArray Q i K a c.w := by
  unfold wpOpIn
  rw [List.getElem?_toArray, ho]
  simp only
  obtain ⟨hdo, h⟩ := h
  have hdo' : ∀ t, o.dst = some t → t < s.nt := fun t ht => by
    rw [ht] at hdo
    simp only [dstOk, Nat.blt_eq] at hdo
    exact hdo
  have run : vcE P Γ 0 o { s with t := t }.ev s.L s.nx (fun e => plainE e v) → o.wpIn (Fx ρ) n P a c.w K Q := fun h => by
    obtain ⟨e, he, hx⟩ := vcE_sound hT (Nat.zero_le _) hs.good hs.eval h
    refine hx ρ n K Q fun u d hd => hK d u ?_
    have := hs.ap hst hd o.dst hdo'
    unfold plainE at he
    rw [he] at this
    exact this
  have skip : v = .und → (∀ f, o.about P c.w a.eval = some f → (Fx ρ).fn f) ∧ K (a.put o.dst undef) c.w := fun hv => by
    subst hv
    refine ⟨fun f _ => Fx_fn ρ f, hK c undef ?_⟩
    have := hs.skip o.dst hdo'
    have e : ({ s with t := t } : St).skip o.dst = { s with t := putT t o.dst .und } := by cases o.dst <;> rfl
    rw [e] at this
    exact this
  cases hg : o.guard with
  | none =>
    rw [hg] at h
    rw [if_pos (by simp [Region.wanted, hg])]
    exact run h
  | some p =>
    obtain ⟨j, w⟩ := p
    rw [hg] at h
    simp only at h
    obtain ⟨d, hd, h⟩ := h
    have hr := hs.tm d
    have hy : ∀ u, a.tmps.getD d undef = u → u ≠ undef → yielded all.toArray a.tmps j = match u with | .bool b => some b | _ => none := fun u hu hne => by
      rw [yielded_of hd (by
        rcases Nat.lt_or_ge d a.tmps.size with h | h
        · exact h
        · rw [Array.getD_eq_getD_getElem?, Array.getElem?_eq_none h] at hu
          exact absurd hu.symm hne), hu]
      cases u <;> rfl
    change Rel c (t d) _ at hr
    rcases h with ⟨ht, h⟩ | ⟨ht, hv⟩ | ⟨ht, hv⟩
    · rw [ht] at hr
      have hb := hy _ hr.bool_inv (by simp [undef])
      rw [if_pos (by simp only [Region.wanted, hg, hb]; cases w <;> rfl)]
      exact run h
    · rw [ht] at hr
      have hb := hy _ hr.bool_inv (by simp [undef])
      rw [if_neg (by simp only [Region.wanted, hg, hb]; cases w <;> simp)]
      exact skip hv
    · rw [ht] at hr
      have hu := hr.und_inv
      have : yielded all.toArray a.tmps j = none := by
        rcases Nat.lt_or_ge d a.tmps.size with h | h
        · rw [yielded_of hd h, hu]; rfl
        · unfold yielded
          unfold dstIn at hd
          cases ho : all[j]? with
          | none => rw [ho] at hd; cases hd
          | some o' =>
            rw [ho] at hd
            simp only at hd
            simp [ho, hd, Array.getElem?_eq_none h]
      rw [if_neg (by simp [Region.wanted, hg, this])]
      exact skip hv

theorem filter_lt {p q : Nat → Bool} : ∀ (l : List Nat), (∀ x ∈ l, q x = true → p x = true) → (∃ x ∈ l, p x = true ∧ q x = false) → (l.filter q).length < (l.filter p).length
  | [], _, h => by obtain ⟨x, hx, _⟩ := h; cases hx
  | y :: l, h1, h2 => by
    have le : ∀ (l : List Nat), (∀ x ∈ l, q x = true → p x = true) → (l.filter q).length ≤ (l.filter p).length := by
      intro l
      induction l with
      | nil => intro _; simp
      | cons z l ih =>
        intro h
        have := ih fun x hx => h x (by simp [hx])
        have hz := h z (by simp)
        simp only [List.filter_cons]
        cases hq : q z with
        | true => simp only [hz hq, if_true, List.length_cons]; omega
        | false => cases p z <;> simp <;> omega
    obtain ⟨x, hx, hp, hq⟩ := h2
    have hl := le l fun x hx => h1 x (by simp [hx])
    simp only [List.filter_cons]
    rcases List.mem_cons.1 hx with rfl | hx
    · simp only [hp, hq, if_true, if_false, Bool.false_eq_true, List.length_cons]
      omega
    · have := filter_lt l (fun x hx => h1 x (by simp [hx])) ⟨x, hx, hp, hq⟩
      have hy := h1 y (by simp)
      cases hqy : q y with
      | true => simp only [hy hqy, if_true, List.length_cons]; omega
      | false => cases p y <;> simp <;> omega
theorem any_sound (hT : TyOk P Γ) (hst : Stable T) {all : List Oper} {s : St} {v : Nat → AV} {t0 : Nat → AV} (hok : drawOk all = true) (hG : ∀ i o, all[i]? = some o → Gives P Γ all s o (tv all v (fun _ => true) t0 i) (v i)) {Q : Exit → Act → World → Prop}
    (hend : ∀ c a, Sim T base G { s with t := tv all v (fun _ => true) t0 all.length } c a → Q .normal a c.w) (hback : ∀ i o, all[i]? = some o → ∀ j ∈ preds o, j < i) : ∀ (fuel : Nat) (listed : Array Bool) (c : Cx) (a : Act), listed.size = all.length →
      ((List.range all.length).filter fun i => !listed.getD i false).length ≤ fuel → (∀ i o, all[i]? = some o → listed.getD i false = true → ∀ j ∈ preds o, listed.getD j false = true) →
      Sim T base G { s with t := tv all v (fun i => listed.getD i false) t0 all.length } c a → wpAnyIn (Fx ρ) n P .any all.toArray Q fuel listed a c.w := by
  have done : ∀ (listed : Array Bool) (c : Cx) (a : Act), listed.size = all.length → (∀ i, i < all.length → listed.getD i false = true) → Sim T base G { s with t := tv all v (fun i => listed.getD i false) t0 all.length } c a → Q .normal a c.w := fun listed c a hsz hall hs => by
    refine hend c a ?_
    have : tv all v (fun _ => true) t0 all.length = tv all v (fun i => listed.getD i false) t0 all.length := by
      funext x
      exact tv_agree _ fun j hj _ => (hall j hj).symm
    rw [this]
    exact hs
  have prog : ∀ (listed : Array Bool), listed.size = all.length → Region.ready .any all.toArray listed = [] → ∀ i, i < all.length → listed.getD i false = true := fun listed hsz hr i => by
    induction i using Nat.strongRecOn with
    | _ i ih =>
      intro hi
      cases hl : listed.getD i false with
      | true => rfl
      | false =>
        exfalso
        have hmem : i ∈ Region.ready .any all.toArray listed := by
          rw [mem_ready]
          have h1 : listed.getD i true = false := by
            rw [Array.getD_eq_getD_getElem?] at hl ⊢
            rw [Array.getElem?_eq_getElem (by omega)] at hl ⊢
            exact hl
          refine ⟨h1, all[i], by simp [hi], fun e he hb => ?_⟩
          have hj : e.on ∈ preds all[i] := List.mem_map.2 ⟨e, List.mem_filter.2 ⟨by simpa using he, hb⟩, rfl⟩
          have hlt := hback i all[i] (by simp [hi]) _ hj
          exact ih _ hlt (by omega)
        rw [hr] at hmem
        cases hmem
  intro fuel
  induction fuel with
  | zero =>
    intro listed c a hsz hcnt hdc hs
    have hall : ∀ i, i < all.length → listed.getD i false = true := fun i hi => by
      cases hl : listed.getD i false with
      | true => rfl
      | false =>
        have : i ∈ (List.range all.length).filter fun i => !listed.getD i false := List.mem_filter.2 ⟨by simpa using hi, by simpa using hl⟩
        have := List.length_pos_of_mem this
        omega
    refine ⟨?_, done listed c a hsz hall hs⟩
    cases hr : Region.ready .any all.toArray listed with
    | nil => rfl
    | cons i l =>
      have hm : i ∈ Region.ready .any all.toArray listed := by rw [hr]; simp
      rw [mem_ready] at hm
      obtain ⟨h1, o, ho, _⟩ := hm
      have hi : i < all.length := by
        have := (Array.getElem?_eq_some_iff.1 ho).1
        simpa using this
      have := hall i hi
      rw [Array.getD_eq_getD_getElem?, Array.getElem?_eq_getElem (by omega)] at this h1
      simp only [Option.getD_some] at this h1
      rw [this] at h1
      cases h1
  | succ fuel ih =>
    intro listed c a hsz hcnt hdc hs
    refine ⟨fun hr => done listed c a hsz (prog listed hsz hr) hs, fun i hi => ?_⟩
    rw [mem_ready] at hi
    obtain ⟨h1, o, ho, hpre⟩ := hi
    have hil : i < all.length := by
      have := (Array.getElem?_eq_some_iff.1 ho).1
      simpa using this
    have ho' : all[i]? = some o := by simpa using ho
    have hli : listed.getD i false = false := by
      rw [Array.getD_eq_getD_getElem?, Array.getElem?_eq_getElem (by omega)] at h1 ⊢
      exact h1
    have hpre' : ∀ j ∈ preds o, listed.getD j false = true := fun j hj => by
      obtain ⟨e, he, rfl⟩ := List.mem_map.1 hj
      obtain ⟨he1, he2⟩ := List.mem_filter.1 he
      exact hpre e (by simpa using he1) he2
    have hdcA : ∀ j m, Anc all j m → listed.getD m false = true → listed.getD j false = true := fun j m h => by
      induction h with
      | edge ho hj => exact fun hm => hdc _ _ ho hm _ hj
      | step ho hm _ ih => exact fun hi => ih (hdc _ _ ho hi _ hm)
    have hancI : ∀ j, Anc all j i → listed.getD j false = true := fun j h => by
      cases h with
      | edge ho2 hj => rw [ho'] at ho2; cases ho2; exact hpre' _ hj
      | step ho2 hm h => rw [ho'] at ho2; cases ho2; exact hdcA _ _ h (hpre' _ hm)
    have hdi : dstIn all i = o.dst := by simp [dstIn, ho']
    have hdst : ∀ j x, dstIn all j = some x → ∃ o', all[j]? = some o' ∧ o'.dst = some x := fun j x h => by
      unfold dstIn at h
      cases hj : all[j]? with
      | none => rw [hj] at h; cases h
      | some o' => rw [hj] at h; exact ⟨o', rfl, h⟩
    have hlook : ∀ x ∈ looks all o, tv all v (fun i => listed.getD i false) t0 all.length x = tv all v (fun _ => true) t0 i x := fun x hx => by
      have e1 : tv all v (fun i => listed.getD i false) t0 all.length x = tv all v (fun j => decide (j < i)) t0 all.length x := tv_agree _ fun j hj hdj => by
        obtain ⟨o', ho2, hd2⟩ := hdst j x hdj
        rcases Nat.lt_trichotomy j i with hlt | rfl | hlt
        · rw [decide_eq_true hlt]
          rcases drawOk_pair hok hlt ho2 ho' with h | h
          · exact hancI j h
          · exact absurd hx ((apartB_spec h).1 x hd2).1
        · rw [decide_eq_false (by omega)]
          exact hli
        · rw [decide_eq_false (by omega)]
          rcases drawOk_pair hok hlt ho' ho2 with h | h
          · cases hl : listed.getD j false with
            | false => rfl
            | true => have := hdcA _ _ h hl; rw [hli] at this; cases this
          · exact absurd hx ((apartB_spec h).2 x hd2)
      have e2 : tv all v (fun j => decide (j < i)) t0 all.length x = tv all v (fun j => decide (j < i)) t0 i x := tv_stop _ (by omega) fun j h1 _ h2 => by
        have := of_decide_eq_true h2
        omega
      have e3 : tv all v (fun j => decide (j < i)) t0 i x = tv all v (fun _ => true) t0 i x := tv_agree _ fun j hj _ => decide_eq_true hj
      rw [e1, e2, e3]
    have hset : ∀ j, (listed.setIfInBounds i true).getD j false = if j = i then true else listed.getD j false := fun j => by
      by_cases hji : j = i
      · subst hji
        rw [if_pos rfl, Array.getD_eq_getD_getElem?, Array.getElem?_setIfInBounds, if_pos rfl, if_pos (by omega)]
        rfl
      · rw [if_neg hji, getD_set_ne false (Ne.symm hji)]
    have hnew : tv all v (fun j => (listed.setIfInBounds i true).getD j false) t0 all.length = putT (tv all v (fun j => listed.getD j false) t0 all.length) o.dst (v i) := by
      funext x
      by_cases hx : o.dst = some x
      · have e1 : tv all v (fun j => (listed.setIfInBounds i true).getD j false) t0 all.length x = tv all v (fun j => (listed.setIfInBounds i true).getD j false) t0 (i + 1) x := tv_stop _ (by omega) fun j h1 h2 h3 hdj => by
          rw [hset, if_neg (by omega)] at h3
          obtain ⟨o', ho2, hd2⟩ := hdst j x hdj
          rcases drawOk_pair hok (by omega : i < j) ho' ho2 with h | h
          · have := hdcA _ _ h h3; rw [hli] at this; cases this
          · exact ((apartB_spec h).1 x hx).2 hd2
        rw [e1]
        have e2 : (listed.setIfInBounds i true).getD i false = true := by rw [hset, if_pos rfl]
        simp only [tv, e2, hdi, hx, putT, upd_same]
      · rw [putT_ne hx]
        refine tv_agree _ fun j hj hdj => ?_
        rw [hset, if_neg]
        rintro rfl
        rw [hdi] at hdj
        exact hx hdj
    refine gives_wp hT hst (gives_congr (hG i o ho') hlook) hs ho' fun d u hs' => ?_
    rw [← hnew] at hs'
    refine ih _ d _ (by simpa using hsz) ?_ (fun m o' ho2 hm j hj => ?_) hs'
    · have := filter_lt (p := fun j => !listed.getD j false) (q := fun j => !(listed.setIfInBounds i true).getD j false) (List.range all.length) (fun x _ hx => by
        rw [hset] at hx
        split at hx
        · cases hx
        · exact hx) ⟨i, by simpa using hil, by simp [hli], by rw [hset, if_pos rfl]; rfl⟩
      omega
    · rw [hset] at hm ⊢
      split
      · rfl
      · split at hm
        · rename_i hmi
          subst hmi
          rw [ho'] at ho2; cases ho2
          exact hpre' j hj
        · exact hdc m o' ho2 hm j hj
def backB (ops : List Oper) : Bool := (ops.zipIdx 0).all fun p => (preds p.1).all fun j => Nat.blt j p.2
theorem backB_spec {ops : List Oper} (h : backB ops = true) (i : Nat) (o : Oper) (ho : ops[i]? = some o) (j : Nat) (hj : j ∈ preds o) : j < i := by
  have hm : (o, i) ∈ ops.zipIdx 0 := by
    rw [List.mem_iff_getElem?]
    exact ⟨i, by rw [List.getElem?_zipIdx, ho]; simp⟩
  have := List.all_eq_true.1 (List.all_eq_true.1 h _ hm) j hj
  simpa [Nat.blt_eq] using this
end
noncomputable def vcDr (P : Program) (Γ : Nat → Option TI) (ops : List Oper) (s : St) (k : St → Prop) : Prop := (backB ops && drawOk ops) = true ∧ vcD1 P Γ ops ops s k
theorem draw_ok {P : Program} {Γ : Nat → Option TI} (hm : P.follows .mixedOrders = true) (hT : TyOk P Γ) {T : Option Nat → Cx → Prop} {base : Option Nat} {G : List Value} {ρ : Option Nat} {n : Nat} (hst : Stable T) : DOk P T base G ρ n (vcDr P Γ) := by
  intro ops s k c a id Q h hs hk
  obtain ⟨hb, h⟩ := h
  rw [Bool.and_eq_true] at hb
  obtain ⟨vs, hr, hk'⟩ := vcD1_runs ops s ops s rfl h
  obtain ⟨g1, g2⟩ := runs_get ops s ops s.t vs hr
  rw [g2] at hk'
  refine wpIn_region_any hm ?_
  have hdr : Sim T base G s ⟨c.w.drew, c.ok, c.μ, c.yl⟩ a := by
    obtain ⟨h1, h2, h3⟩ := hs.good.drew
    obtain ⟨rs, hdf⟩ := hs.df
    exact ⟨hs.sz, fun i => h3 _ _ (hs.tm i), h1, hs.gh.imp fun _ _ _ h => h3 _ _ h, ⟨rs, hdf.fr h2⟩, hst _ _ _ h2 hs.tt⟩
  have hrep : ∀ i, (Array.replicate ops.length false).getD i false = false := fun i => by
    rw [Array.getD_eq_getD_getElem?, Array.getElem?_replicate]
    split <;> rfl
  have := any_sound (ρ := ρ) (n := n) (Q := Q) hT hst hb.2 g1 (base := base) (G := G) (T := T) (fun c a hs => hk _ c a hk' hs) (backB_spec hb.1) ops.length (Array.replicate ops.length false) ⟨c.w.drew, c.ok, c.μ, c.yl⟩ a (by simp)
    (by
      have := List.length_filter_le (fun i => !(Array.replicate ops.length false).getD i false) (List.range ops.length)
      simpa using this) (fun i o _ h => by rw [hrep] at h; cases h) (by
      have e : tv ops (fun i => vs.getD i .any) (fun i => (Array.replicate ops.length false).getD i false) s.t ops.length = s.t := by
        have : ∀ m, tv ops (fun i => vs.getD i .any) (fun i => (Array.replicate ops.length false).getD i false) s.t m = s.t := by
          intro m
          induction m with
          | zero => rfl
          | succ m ih =>
            have e1 : tv ops (fun i => vs.getD i .any) (fun i => (Array.replicate ops.length false).getD i false) s.t (m + 1) = match (Array.replicate ops.length false).getD m false with | true => putT (tv ops (fun i => vs.getD i .any) (fun i => (Array.replicate ops.length false).getD i false) s.t m) (dstIn ops m) (vs.getD m .any) | false => tv ops (fun i => vs.getD i .any) (fun i => (Array.replicate ops.length false).getD i false) s.t m := rfl
            rw [e1, hrep]
            exact ih
        exact this _
      rw [e]
      exact hdr)
  simpa using this
end Go.Proofs.Ytcfbhojpemjjpaa
