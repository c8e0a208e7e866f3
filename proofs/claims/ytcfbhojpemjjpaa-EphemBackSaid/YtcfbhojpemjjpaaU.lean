/- The walk through a region: its operations, one behind the other. -/
import Derived.Test.YtcfbhojpemjjpaaT
set_option linter.unusedVariables false
set_option linter.unusedSimpArgs false
namespace Go.Proofs.Ytcfbhojpemjjpaa
open Go Go.RowKit

/-- What lies among the deferred calls: marks of loops over functions, no call in any of them. -/
inductive Df (base : Option Nat) (c : Cx) : List Deferred → List Nat → Prop where
  | nil : Df base c [] []
  | cons {d : Deferred} {ds : List Deferred} {r : Nat} {rs : List Nat} (ht : d.target = .collected r) (hh : c.w.heap[r]? = some (.deferred (some []))) (hb : ∃ m, base = some m ∧ m ≤ r) (ho : ¬ c.own r) (hk : ¬ c.ok r) (hn : r ∉ rs) (h : Df base c ds rs) : Df base c (d :: ds) (r :: rs)
theorem Df.fr {base : Option Nat} {c d : Cx} {ds : List Deferred} {rs : List Nat} (h : Df base c ds rs) (hf : Fr c d) : Df base d ds rs := by
  induction h with
  | nil => exact .nil
  | @cons x xs r rs ht hh hb ho hk hn _ ih =>
    have hlt : r < c.w.heap.size := (Array.getElem?_eq_some_iff.1 hh).1
    exact .cons ht (by rw [hf.same r hlt ho]; exact hh) hb (fun h => (hf.own r h).elim ho fun h => by omega) (fun h => (hf.ok r h).elim hk fun h => h.elim ho fun h => by omega) hn ih

/-- The state of the walk tells an activation's state. T: what else is known of the moment; base: where the memory began. -/
structure Sim (T : Option Nat → Cx → Prop) (base : Option Nat) (G : List Value) (s : St) (c : Cx) (a : Act) : Prop where
  sz : a.tmps.size = s.nt
  tm : ∀ i, Rel c (s.t i) (a.tmps.getD i undef)
  good : Good c s.L
  gh : F2 (Rel c) s.g G
  df : ∃ rs, Df base c a.defers rs
  tt : T s.y c
theorem Sim.eval {T : Option Nat → Cx → Prop} {base : Option Nat} {G : List Value} {s : St} {c : Cx} {a : Act} (h : Sim T base G s c a) (x : Operand) : Rel c (s.ev x) (a.eval x) := by
  cases x with
  | tmp t => exact h.tm t
  | const v =>
    simp only [St.ev, Act.eval, ofConst]
    split <;> first | exact .pure (.int _ _) | exact .pure (.bool _) | exact .pure .nilsl | exact .pure (.any _)
  | global g => exact .pure (.any _)
  | func f => exact .fn (caps := []) (vs := []) f rfl fun i a v ha => by simp at ha
theorem getD_put (a : Act) (d : Nat) (v : Value) (i : Nat) (hd : d < a.tmps.size) : (a.put (some d) v).tmps.getD i undef = if i = d then v else a.tmps.getD i undef := by
  simp only [Act.put, Array.getD_eq_getD_getElem?, Array.getElem?_setIfInBounds]
  by_cases h : d = i
  · subst h; simp [hd]
  · simp [h, Ne.symm h]
/-- An operation's effect is put. -/
theorem Sim.ap {T : Option Nat → Cx → Prop} {base : Option Nat} {G : List Value} {s : St} {c d : Cx} {a : Act} (hst : ∀ y c d, Fr c d → T y c → T y d) (h : Sim T base G s c a) {np : Nat} {e : Eff} {v : Value} (hs : Stp c s.L np e v d) (dst : Option Tmp) (hd : ∀ t, dst = some t → t < s.nt) :
    Sim T base G (s.ap dst e) d (a.put dst v) := by
  refine ⟨?_, fun i => ?_, hs.good, ?_, ?_, hst _ _ _ hs.fr h.tt⟩
  · cases dst with
    | none => exact h.sz
    | some t => simp only [Act.put, Array.size_setIfInBounds]; exact h.sz
  · cases dst with
    | none =>
      show Rel d (apT s.L e s.t i) _
      rw [apT_eq]
      exact hs.tr _ _ (h.tm i)
    | some t =>
      rw [getD_put a t v i (by rw [h.sz]; exact hd t rfl)]
      show Rel d (upd (apT s.L e s.t) t e.v i) _
      by_cases hi : i = t
      · subst hi
        rw [upd_same, if_pos rfl]
        exact hs.val
      · rw [upd_ne _ _ hi, if_neg hi, apT_eq]
        exact hs.tr _ _ (h.tm i)
  · show F2 (Rel d) (apG s.L e s.g) G
    rw [apG_eq]
    exact h.gh.maps _ hs.tr
  · obtain ⟨rs, hr⟩ := h.df
    have := hr.fr hs.fr
    cases dst with
    | none => exact ⟨rs, this⟩
    | some t => exact ⟨rs, this⟩
def St.skip (s : St) : Option Nat → St
  | some d => { s with t := upd s.t d .und }
  | none => s
theorem Sim.skip {T : Option Nat → Cx → Prop} {base : Option Nat} {G : List Value} {s : St} {c : Cx} {a : Act} (h : Sim T base G s c a) (dst : Option Tmp) (hd : ∀ t, dst = some t → t < s.nt) : Sim T base G (s.skip dst) c (a.put dst undef) := by
  cases dst with
  | none => exact h
  | some t =>
    refine ⟨by simp only [Act.put, Array.size_setIfInBounds]; exact h.sz, fun i => ?_, h.good, h.gh, h.df, h.tt⟩
    rw [getD_put a t undef i (by rw [h.sz]; exact hd t rfl)]
    show Rel c (upd s.t t .und i) _
    by_cases hi : i = t
    · subst hi
      rw [upd_same, if_pos rfl]
      exact .pure .und
    · rw [upd_ne _ _ hi, if_neg hi]
      exact h.tm i
/-- A slot whose value is told by an equal term. -/
theorem Sim.lit {T : Option Nat → Cx → Prop} {base : Option Nat} {G : List Value} {s : St} {c : Cx} {a : Act} (h : Sim T base G s c a) {d : Nat} {v : AV} (hv : s.t d = v) : Sim T base G { s with t := upd s.t d v } c a := by
  have : upd s.t d v = s.t := upd_self hv
  rw [this]
  exact h

section
variable (P : Program) (Γ : Nat → Option TI) (np : Nat)
/-- The operation is carried out, or it is not: as its guard says. -/
def vcG (dst : Nat → Option Nat) (o : Oper) (s : St) (run skip : St → Prop) : Prop :=
  match o.guard with
  | none => run s
  | some (j, w) => match dst j with
    | some d => frc (s.t d) fun v => match v with
      | .bool t => splitB t fun t => match t, w with
        | true, true => run { s with t := upd s.t d (.bool true) }
        | false, false => run { s with t := upd s.t d (.bool false) }
        | true, false => skip { s with t := upd s.t d (.bool true) }
        | false, true => skip { s with t := upd s.t d (.bool false) }
      | .und => skip s
      | _ => False
    | none => False
def dstIn (all : List Oper) (j : Nat) : Option Nat := match all[j]? with | some o => o.dst | none => none
def dstOk (nt : Nat) : Option Nat → Bool
  | some d => Nat.blt d nt
  | none => true
/-- The next operation's effect, the special ones with it: a call of yield. -/
noncomputable def vcOps (Y : List AV → St → (AV → St → Prop) → Prop) (all l : List Oper) : St → (St → Prop) → Prop :=
  List.rec (motive := fun _ => St → (St → Prop) → Prop) (fun s k => k s) (fun o _ ih s k => match dstOk s.nt o.dst with
    | false => False
    | true => vcG (dstIn all) o s
      (fun s => match o.op with
        | .call c => match c.callee with
          | .value f => frc (s.ev f) fun v => match v with
            | .yld => frcL (c.args.toList.map s.ev) fun as => Y as s fun v s => ih { s with t := putT s.t o.dst v } k
            | _ => vcE P Γ np o s.ev s.L s.nx fun e => ih (s.ap o.dst e) k
          | _ => vcE P Γ np o s.ev s.L s.nx fun e => ih (s.ap o.dst e) k
        | _ => vcE P Γ np o s.ev s.L s.nx fun e => ih (s.ap o.dst e) k)
      (fun s => ih (s.skip o.dst) k)) l
theorem vcOps_nil (Y : List AV → St → (AV → St → Prop) → Prop) (all : List Oper) (s : St) (k : St → Prop) : vcOps P Γ np Y all [] s k = k s := rfl
theorem vcOps_cons (Y : List AV → St → (AV → St → Prop) → Prop) (all : List Oper) (o : Oper) (l : List Oper) (s : St) (k : St → Prop) : vcOps P Γ np Y all (o :: l) s k = match dstOk s.nt o.dst with
    | false => False
    | true => vcG (dstIn all) o s
      (fun s => match o.op with
        | .call c => match c.callee with
          | .value f => frc (s.ev f) fun v => match v with
            | .yld => frcL (c.args.toList.map s.ev) fun as => Y as s fun v s => vcOps P Γ np Y all l { s with t := putT s.t o.dst v } k
            | _ => vcE P Γ np o s.ev s.L s.nx fun e => vcOps P Γ np Y all l (s.ap o.dst e) k
          | _ => vcE P Γ np o s.ev s.L s.nx fun e => vcOps P Γ np Y all l (s.ap o.dst e) k
        | _ => vcE P Γ np o s.ev s.L s.nx fun e => vcOps P Γ np Y all l (s.ap o.dst e) k)
      (fun s => vcOps P Γ np Y all l (s.skip o.dst) k) := rfl
end
/-- What yield does, as the walk is told of it. -/
def YOk (P : Program) (T : Option Nat → Cx → Prop) (base : Option Nat) (G : List Value) (ρ : Option Nat) (n : Nat) (Y : List AV → St → (AV → St → Prop) → Prop) : Prop :=
  ∀ (o : Oper) (cl : Call) (f : Operand) (s : St) (c : Cx) (a : Act) (k : AV → St → Prop) (next : Act → World → Prop) (Q : Exit → Act → World → Prop), o.op = .call cl → cl.callee = .value f → s.ev f = .yld → dstOk s.nt o.dst = true → Sim T base G s c a →
    Y (cl.args.toList.map s.ev) s k → (∀ v s' d u, k v s' → Sim T base G { s' with t := putT s'.t o.dst v } d (a.put o.dst u) → next (a.put o.dst u) d.w) → o.wpIn (Fx ρ) n P a c.w next Q
def noY : List AV → St → (AV → St → Prop) → Prop := fun _ _ _ => False
theorem noY_ok (P : Program) (T : Option Nat → Cx → Prop) (base : Option Nat) (G : List Value) (ρ : Option Nat) (n : Nat) : YOk P T base G ρ n noY := fun _ _ _ _ _ _ _ _ _ _ _ _ _ _ h => h.elim

theorem yielded_of {ops : List Oper} {a : Act} {j d : Nat} (hd : dstIn ops j = some d) (hs : d < a.tmps.size) : yielded ops.toArray a.tmps j = match a.tmps.getD d undef with | .bool b => some b | _ => none := by
  unfold yielded
  unfold dstIn at hd
  cases ho : ops[j]? with
  | none => rw [ho] at hd; cases hd
  | some o =>
    rw [ho] at hd
    simp only at hd
    simp only [List.getElem?_toArray, ho, Option.bind_some, hd, Array.getElem?_eq_getElem hs, Array.getD_eq_getD_getElem?, Option.getD_some]
    cases a.tmps[d] <;> rfl

theorem vcOps_sound {P : Program} {Γ : Nat → Option TI} {np : Nat} {T : Option Nat → Cx → Prop} {base : Option Nat} {G : List Value} {ρ : Option Nat} {n : Nat} {Y : List AV → St → (AV → St → Prop) → Prop} (hT : TyOk P Γ) (hnp : np = 0) (hst : ∀ y c d, Fr c d → T y c → T y d) (hY : YOk P T base G ρ n Y) (all : List Oper)
    {Q : Exit → Act → World → Prop} {k : St → Prop} (hk : ∀ s c a, k s → Sim T base G s c a → Q .normal a c.w) : ∀ (l : List Oper) (pre : List Oper), pre ++ l = all → ∀ (s : St) (c : Cx) (a : Act), vcOps P Γ np Y all l s k → Sim T base G s c a →
      wpOpsIn (Fx ρ) n P all.toArray Q (List.range' pre.length l.length) a c.w
  | [], pre, hp, s, c, a, h, hs => hk s c a h hs
  | o :: l, pre, hp, s, c, a, h, hs => by
    have ih := fun s c a => vcOps_sound hT hnp hst hY all hk l (pre ++ [o]) (by simpa using hp) s c a
    have ho : all.toArray[pre.length]? = some o := by
      rw [← hp]
      simp
    simp only [List.length_cons, List.range'_succ]
    simp only [List.length_append, List.length_cons, List.length_nil, Nat.zero_add] at ih
    simp only [wpOpsIn, ho]
    rw [vcOps_cons] at h
    split at h
    · exact h.elim
    · rename_i hdo
      have hdo' : ∀ s' : St, s'.nt = s.nt → ∀ t, o.dst = some t → t < s'.nt := fun s' hs' t ht => by
        rw [ht] at hdo
        simp only [dstOk, Nat.blt_eq] at hdo
        rw [hs']
        exact hdo
      have run : ∀ s' : St, s'.nt = s.nt → Sim T base G s' c a → (match o.op with
          | .call c => match c.callee with
            | .value f => frc (s'.ev f) fun v => match v with
              | .yld => frcL (c.args.toList.map s'.ev) fun as => Y as s' fun v s => vcOps P Γ np Y all l { s with t := putT s.t o.dst v } k
              | _ => vcE P Γ np o s'.ev s'.L s'.nx fun e => vcOps P Γ np Y all l (s'.ap o.dst e) k
            | _ => vcE P Γ np o s'.ev s'.L s'.nx fun e => vcOps P Γ np Y all l (s'.ap o.dst e) k
          | _ => vcE P Γ np o s'.ev s'.L s'.nx fun e => vcOps P Γ np Y all l (s'.ap o.dst e) k) → o.wpIn (Fx ρ) n P a c.w (wpOpsIn (Fx ρ) n P all.toArray Q (List.range' (pre.length + 1) l.length)) Q := fun s' hnt hs' h => by
        have plain : vcE P Γ np o s'.ev s'.L s'.nx (fun e => vcOps P Γ np Y all l (s'.ap o.dst e) k) → o.wpIn (Fx ρ) n P a c.w (wpOpsIn (Fx ρ) n P all.toArray Q (List.range' (pre.length + 1) l.length)) Q := fun h => by
          obtain ⟨e, he, hx⟩ := vcE_sound hT (by omega) hs'.good hs'.eval h
          exact hx ρ n _ Q fun v d hd => ih _ d _ he (hs'.ap hst hd o.dst (hdo' s' hnt))
        split at h
        · rename_i cl hcl
          split at h
          · rename_i f hf
            rw [frc_eq] at h
            split at h
            · rename_i hy
              rw [frcL_eq] at h
              exact hY o cl f s' c a _ _ Q hcl hf hy (by rw [hnt]; exact hdo) hs' h fun v s'' d u hv hs'' => ih _ d _ hv hs''
            · exact plain h
          · exact plain h
        · exact plain h
      have skip : ∀ s' : St, s'.nt = s.nt → Sim T base G s' c a → vcOps P Γ np Y all l (s'.skip o.dst) k → (∀ f, o.about P c.w a.eval = some f → (Fx ρ).fn f) ∧ wpOpsIn (Fx ρ) n P all.toArray Q (List.range' (pre.length + 1) l.length) (a.put o.dst undef) c.w := fun s' hnt hs' h =>
        ⟨fun f _ => Fx_fn ρ f, ih _ c _ h (hs'.skip o.dst (hdo' s' hnt))⟩
      unfold vcG at h
      split at h
      · rename_i hg
        rw [if_pos (by simp [Region.wanted, hg])]
        exact run s rfl hs h
      · rename_i j w hg
        split at h
        · rename_i d hd
          rw [frc_eq] at h
          have hr := hs.tm d
          have hy : ∀ u, a.tmps.getD d undef = u → u ≠ undef → yielded all.toArray a.tmps j = match u with | .bool b => some b | _ => none := fun u hu hne => by
            rw [yielded_of hd (by
              rcases Nat.lt_or_ge d a.tmps.size with h | h
              · exact h
              · rw [Array.getD_eq_getD_getElem?, Array.getElem?_eq_none h] at hu
                exact absurd hu.symm hne), hu]
          split at h
          · rename_i t ht
            rw [ht] at hr
            have hb := hy _ hr.bool_inv (by simp [undef])
            rw [splitB_eq] at h
            have hw : Region.wanted o (yielded all.toArray a.tmps) = (t == w) := by
              simp only [Region.wanted, hg, hb]
              cases t <;> cases w <;> rfl
            rw [hw]
            cases t <;> cases w <;> simp only [Bool.beq_eq_decide_eq] at h ⊢
            · exact run { s with t := upd s.t d (.bool false) } rfl (hs.lit ht) h
            · exact skip { s with t := upd s.t d (.bool false) } rfl (hs.lit ht) h
            · exact skip { s with t := upd s.t d (.bool true) } rfl (hs.lit ht) h
            · exact run { s with t := upd s.t d (.bool true) } rfl (hs.lit ht) h
          · rename_i ht
            rw [ht] at hr
            have hu := hr.und_inv
            have hw : Region.wanted o (yielded all.toArray a.tmps) = false := by
              simp only [Region.wanted, hg]
              have : yielded all.toArray a.tmps j = none := by
                rcases Nat.lt_or_ge d a.tmps.size with h | h
                · rw [yielded_of hd h, hu]; rfl
                · unfold yielded
                  unfold dstIn at hd
                  cases ho : all[j]? with
                  | none => rw [ho] at hd; cases hd
                  | some o' =>
                    rw [ho] at hd
                    simp only at hd
                    simp [ho, hd, Array.getElem?_eq_none h]
              rw [this]
              rfl
            rw [hw]
            exact skip s rfl hs h
          · exact h.elim
        · exact h.elim
end Go.Proofs.Ytcfbhojpemjjpaa
