/- Loops over functions: the loop's side. -/
import Derived.Test.YtcfbhojpemjjpaaC
set_option linter.unusedVariables false
set_option linter.unusedSimpArgs false
namespace Go.Proofs.Ytcfbhojpemjjpaa
open Go Go.RowKit

def saved (s : St) : List AV := (List.range s.nt).map s.t
def backT (g : List AV) (nt i : Nat) : AV := match Nat.blt i nt with | true => (match g[i]? with | some v => v | none => .any) | false => .any
/-- A round is over: the activation's own slots, as they are now. -/
def back (nt : Nat) (s : St) : St := { s with t := backT s.g nt, nt := nt, g := s.g.drop nt }
def setPs : List Nat → List AV → (Nat → AV) → Nat → AV
  | p :: ps, x :: xs, t => setPs ps xs (upd t p x)
  | _, _, t => t
def roundSt (s : St) (ps : List Nat) (x : List AV) : St := { s with t := setPs ps x s.t, g := saved s ++ s.g }
def rnd (Q : Exit → St → Prop) (nt : Nat) (F : St) (I : Prop) : Exit → St → Prop
  | .normal, s => Wk (back nt s) F ∧ I
  | .exit j, s => Q (.exit j) (back nt s)
  | .ret, s => Q .ret (back nt s)
  | _, _ => False
def psOk (nt : Nat) (ps : List Nat) (x : List AV) : Bool := Nat.beq x.length ps.length && ps.all fun p => Nat.blt p nt
noncomputable def vcRF (P : Program) (Γ : Nat → Option TI) (D : List Oper → St → (St → Prop) → Prop) (f : Operand) (ps : Array Tmp) (assign body : Code) (Q : Exit → St → Prop) (s : St) : Prop :=
  frc (s.ev f) fun v => match v with
    | .fn g caps => caps.all AV.pureC = true ∧ ∃ items, IT P g caps items ∧ ∃ (F : Nat → St) (I : Nat → Prop), Wk s (F 0) ∧ I 0 ∧
        (∀ i x, I i → items[i]? = some x → psOk s.nt ps.toList x = true ∧ (F i).nt = s.nt ∧
          vcC P Γ noY D noR assign (fun e s1 => match e with | .normal => vcC P Γ noY D noR body (rnd Q s.nt (F (i + 1)) (I (i + 1))) s1 | _ => False) (roundSt (F i) ps.toList x)) ∧ (I items.length → Q .normal (F items.length))
    | _ => False

theorem setPs_sz : ∀ (ps : List Tmp) (vs : List Value) (tmps : Array Value), (((ps.zip vs).foldl (fun (tmps : Array Value) (x : Tmp × Value) => tmps.setIfInBounds x.1 x.2) tmps)).size = tmps.size
  | [], _, _ => rfl
  | _ :: _, [], _ => rfl
  | p :: ps, v :: vs, tmps => by
    simp only [List.zip_cons_cons, List.foldl_cons]
    rw [setPs_sz ps vs]
    simp
theorem setPs_rel {c : Cx} : ∀ (ps : List Tmp) (xs : List AV) (vs : List Value) (t : Nat → AV) (tmps : Array Value), F2 (R0 c.w c.ok) xs vs → (∀ p ∈ ps, p < tmps.size) → (∀ i, Rel c (t i) (tmps.getD i undef)) →
    ∀ i, Rel c (setPs ps xs t i) (((ps.zip vs).foldl (fun (tmps : Array Value) (x : Tmp × Value) => tmps.setIfInBounds x.1 x.2) tmps).getD i undef)
  | [], _, _, _, _, _, _, h => h
  | p :: ps, [], [], t, tmps, _, _, h => h
  | p :: ps, x :: xs, [], t, tmps, h2, _, h => by cases h2
  | p :: ps, [], v :: vs, t, tmps, h2, _, h => by cases h2
  | p :: ps, x :: xs, v :: vs, t, tmps, h2, hp, h => by
    cases h2 with
    | cons hr ht =>
    simp only [List.zip_cons_cons, List.foldl_cons, setPs]
    refine setPs_rel ps xs vs _ _ ht (fun q hq => by simpa using hp q (by simp [hq])) fun i => ?_
    have hpp := hp p (by simp)
    rw [Array.getD_eq_getD_getElem?, Array.getElem?_setIfInBounds]
    by_cases hi : i = p
    · subst hi
      rw [upd_same, if_pos rfl, if_pos hpp]
      exact .pure hr
    · rw [upd_ne _ _ hi, if_neg (Ne.symm hi), ← Array.getD_eq_getD_getElem?]
      exact h i
theorem Df.rfr {base : Option Nat} {c d : Cx} {ds : List Deferred} {rs : List Nat} {l : Nat} (h : Df base c ds rs) (hf : RFr l c d) (hl : l ∉ rs) : Df base d ds rs := by
  induction h with
  | nil => exact .nil
  | @cons x xs r rs ht hh hb ho hk hn _ ih =>
    have hlt : r < c.w.heap.size := (Array.getElem?_eq_some_iff.1 hh).1
    have hrl : r ≠ l := fun he => hl (by simp [he])
    exact .cons ht (by rw [hf.same r hlt ho hrl]; exact hh) hb (fun h => (hf.own r h).elim ho fun h => by omega) (fun h => (hf.ok r h).elim hk fun h => h.elim ho fun h => by omega) hn (ih fun h => hl (by simp [h]))
theorem Df.lt {base : Option Nat} {c : Cx} {ds : List Deferred} {rs : List Nat} (h : Df base c ds rs) : ∀ r ∈ rs, r < c.w.heap.size := by
  induction h with
  | nil => intro r hr; cases hr
  | @cons x xs r rs ht hh hb ho hk hn _ ih =>
    intro q hq
    rcases List.mem_cons.1 hq with rfl | hq
    · exact (Array.getElem?_eq_some_iff.1 hh).1
    · exact ih q hq
/-- One block turns, which is nobody's. -/
theorem ev_put {c : Cx} {l : Nat} (ho : ¬ c.own l) (hk : ¬ c.ok l) (ob : Obj) : Ev (fun b => b ≠ l) c ⟨c.w.putObj l ob, c.ok, c.μ, c.yl⟩ :=
  ⟨rfl, rfl, rfl, by show _ ≤ (c.w.putObj l ob).heap.size; simp, fun b hb hp => World.putObj_heap_other (hp.elim (fun h => h) fun h he => h.elim (fun h => ho (he ▸ h)) fun h => hk (he ▸ h)), rfl, rfl, rfl⟩
/-- What is known of a moment in a round. -/
def rT (T : Option Nat → Cx → Prop) (l : Nat) (c : Cx) (X : Loop) (y : Option Nat) (d : Cx) : Prop := T y d ∧ RFr l c d ∧ d.w.heap[l]? = some (.loop X) ∧ ¬ d.own l ∧ ¬ d.ok l
theorem rT_stable {T : Option Nat → Cx → Prop} (hst : Stable T) (l : Nat) (c : Cx) (X : Loop) : Stable (rT T l c X) := by
  rintro y d e hf ⟨h1, h2, h3, h4, h5⟩
  have hlt : l < d.w.heap.size := (Array.getElem?_eq_some_iff.1 h3).1
  exact ⟨hst _ _ _ hf h1, h2.fr hf, by rw [hf.same l hlt h4]; exact h3, fun h => (hf.own l h).elim h4 fun h => by omega, fun h => (hf.ok l h).elim h5 fun h => h.elim h4 fun h => by omega⟩
theorem rT_put {T : Option Nat → Cx → Prop} {m : Nat} (hse : StE T (some m)) {l : Nat} (hm : m ≤ l) {c : Cx} {X : Loop} {y : Option Nat} {d : Cx} (h : rT T l c X y d) (X' : Loop) : rT T l c X' y ⟨d.w.putObj l (.loop X'), d.ok, d.μ, d.yl⟩ := by
  obtain ⟨h1, h2, h3, h4, h5⟩ := h
  have hlt : l < d.w.heap.size := (Array.getElem?_eq_some_iff.1 h3).1
  have hev := ev_put h4 h5 (.loop X')
  refine ⟨hse _ _ _ ⟨hev.os, hev.tape, hev.output, hev.size, fun b hb hp => hev.same b hb (hp.imp (fun ⟨m', hm', hb'⟩ => by cases hm'; omega) fun h => h), rfl, rfl, rfl⟩ h1, ?_, World.putObj_heap_same hlt, h4, h5⟩
  exact ⟨h2.os, h2.tape, h2.output, by show _ ≤ (d.w.putObj l _).heap.size; simpa using h2.size, fun b hb hn hl => by show (d.w.putObj l _).heap[b]? = _; rw [World.putObj_heap_other hl]; exact h2.same b hb hn hl, h2.own, h2.ok⟩

section
variable {P : Program} {Γ : Nat → Option TI} {T : Option Nat → Cx → Prop} {m : Nat} {G : List Value}
def jumpOf : Exit → Option Code
  | .exit j => some (.exit j)
  | .ret => some .ret
  | _ => none
/-- The loop's side as the iterator's law asks for it. -/
def cK (T : Option Nat → Cx → Prop) (base : Option Nat) (G : List Value) (Q : Exit → St → Prop) (F : Nat → St) (I : Nat → Prop) (l : Nat) (X : LoopState → Option Code → Loop) (a : Act) (rs : List Nat) (y : Option Nat) (c : Cx) : Prop :=
  ¬ c.own l ∧ ¬ c.ok l ∧ Df base c a.defers rs ∧ match y with
  | some i => I i ∧ c.w.heap[l]? = some (.loop (X .ready none)) ∧ Sim T base G (F i) c a
  | none => ∃ e j s, jumpOf e = some j ∧ Q e s ∧ c.w.heap[l]? = some (.loop (X .done (some j))) ∧ Sim T base G s c a
theorem back_sim {c : Cx} {a0 : Act} {s : St} {T' : Option Nat → Cx → Prop} {ar : Act} (h : Sim T' none (a0.tmps.toList ++ G) s c ar) {nt : Nat} (hnt : a0.tmps.size = nt) {base : Option Nat} {rs : List Nat} (hd : Df base c a0.defers rs) (ht : T s.y c) : Sim T base G (back nt s) c a0 := by
  refine ⟨hnt, fun i => ?_, h.good, ?_, ⟨rs, hd⟩, ht⟩
  · show Rel c (backT s.g nt i) _
    unfold backT
    split
    · rename_i hi
      have hi : i < nt := by simpa [Nat.blt_eq] using hi
      split
      · rename_i v hv
        obtain ⟨u, hu, hr⟩ := h.gh.get i hv
        rw [List.getElem?_append_left (by simp; omega)] at hu
        rw [Array.getD_eq_getD_getElem?, ← Array.getElem?_toList, hu]
        exact hr
      · exact .pure (.any _)
    · exact .pure (.any _)
  · show F2 (Rel c) (s.g.drop nt) G
    have := h.gh.drop nt
    have e : (a0.tmps.toList ++ G).drop nt = G := by rw [← hnt, show a0.tmps.size = a0.tmps.toList.length by simp, List.drop_left]
    rw [e] at this
    exact this
theorem cons_ok (hT : TyOk P Γ) {D : List Oper → St → (St → Prop) → Prop} (hD : ∀ T base G ρ n, Stable T → DOk P T base G ρ n D) (hst : Stable T) (hse : StE T (some m)) {Q : Exit → St → Prop} {items : List (List AV)} {F : Nat → St} {I : Nat → Prop} {l : Nat} (hml : m ≤ l) {fn : FuncId} {a : Act} {ps : Array Tmp} {assign body : Code} {df : Nat} {rs : List Nat} (hlr : l ∉ rs) {nt : Nat} (hnt : a.tmps.size = nt)
    (hF : ∀ i x, I i → items[i]? = some x → psOk nt ps.toList x = true ∧ (F i).nt = nt ∧ vcC P Γ noY D noR assign (fun e s1 => match e with | .normal => vcC P Γ noY D noR body (rnd Q nt (F (i + 1)) (I (i + 1))) s1 | _ => False) (roundSt (F i) ps.toList x)) :
    Cons P l items (fun b => b < m ∨ b = l ∨ b ∈ rs) (cK T (some m) G Q F I l (fun st p => { state := st, pending := p, fn := fn, tmps := a.tmps, params := ps, assign := assign, body := body, defers := df }) a rs) := by
  refine ⟨fun y c c' he hk => ?_, fun y c b hk hb => ?_, fun y c hk => ⟨hk.1, hk.2.1⟩, .inr (.inl rfl), fun i x c vs hk hx hv => ?_⟩
  · obtain ⟨h1, h2, h3, h4⟩ := hk
    have hown : ¬ c'.own l := fun ⟨i, e, hi, hn, hb⟩ => h1 ⟨i, e, by rw [← he.μ]; exact hi, hn, hb⟩
    have hsim : ∀ s, Sim T (some m) G s c a → Sim T (some m) G s c' a := fun s hs => hs.ev hse h3 he (fun b ⟨m', hm', hb⟩ => by cases hm'; exact .inl hb) fun r hr => .inr (.inr hr)
    have hl : ∀ X, c.w.heap[l]? = some (.loop X) → c'.w.heap[l]? = some (.loop X) := fun X hX => by
      rw [he.same l (Array.getElem?_eq_some_iff.1 hX).1 (.inl (.inr (.inl rfl)))]
      exact hX
    refine ⟨hown, by rw [he.ok]; exact h2, h3.ev he fun r hr => .inr (.inr hr), ?_⟩
    cases y with
    | some i => exact ⟨h4.1, hl _ h4.2.1, hsim _ h4.2.2⟩
    | none =>
      obtain ⟨e, j, s, g1, g2, g3, g4⟩ := h4
      exact ⟨e, j, s, g1, g2, hl _ g3, hsim _ g4⟩
  · have : ∃ L, Good c L := by
      obtain ⟨_, _, _, h4⟩ := hk
      cases y with
      | some i => exact ⟨_, h4.2.2.good⟩
      | none => obtain ⟨e, j, s, _, _, _, g4⟩ := h4; exact ⟨_, g4.good⟩
    obtain ⟨L, hg⟩ := this
    exact hb.elim hg.lt fun h => (hg.okd b h).1
  · obtain ⟨h1, h2, h3, hI, h4, hs⟩ := hk
    obtain ⟨hps, hFn, hvc⟩ := hF i x hI hx
    simp only [psOk, Bool.and_eq_true] at hps
    have hxl := Nat.eq_of_beq_eq_true hps.1
    have hpl : ∀ p ∈ ps.toList, p < nt := fun p hp => by have := List.all_eq_true.1 hps.2 p hp; simpa [Nat.blt_eq] using this
    have hvl := hv.length
    refine ⟨_, _, _, _, run_yield h4 (by simp; rw [← hvl, hxl]; simp), fun n => ?_⟩
    refine roundIn_of_wpIn trivial ?_
    have hlt : l < c.w.heap.size := (Array.getElem?_eq_some_iff.1 h4).1
    let X : LoopState → Option Code → Loop := fun st p => { state := st, pending := p, fn := fn, tmps := a.tmps, params := ps, assign := assign, body := body, defers := df }
    have htm : (ps.zip vs.toArray).foldl (fun (tmps : Array Value) (x : Tmp × Value) => tmps.setIfInBounds x.1 x.2) a.tmps = (ps.toList.zip vs).foldl (fun (tmps : Array Value) (x : Tmp × Value) => tmps.setIfInBounds x.1 x.2) a.tmps := by
      rw [← Array.foldl_toList, Array.toList_zip]
    have s0 : Sim (rT T l c (X .ready none)) none (a.tmps.toList ++ G) (roundSt (F i) ps.toList x) c { tmps := (ps.zip vs.toArray).foldl (fun (tmps : Array Value) (x : Tmp × Value) => tmps.setIfInBounds x.1 x.2) a.tmps, defers := [] } := by
      refine ⟨?_, fun j => ?_, hs.good, ?_, ⟨[], .nil⟩, hs.tt, RFr.refl l c, h4, h1, h2⟩
      · show Array.size (Array.foldl _ _ _) = _
        rw [htm, setPs_sz]
        exact hs.sz
      · show Rel c (setPs ps.toList x (F i).t j) (Array.getD (Array.foldl _ _ _) j undef)
        rw [htm]
        exact setPs_rel ps.toList x vs _ _ hv (fun p hp => by rw [hnt]; exact hpl p hp) hs.tm j
      · refine F2.append (F2.of_get ?_ fun j av v hj hv => ?_) hs.gh
        · simp [saved, hFn, hnt]
        · obtain ⟨q, hq, hav⟩ := get_map hj
          obtain ⟨hql, hqe⟩ := List.getElem?_eq_some_iff.1 hq
          have hqe : q = j := by simpa using hqe.symm
          rw [hav, hqe]
          have := hs.tm j
          rw [Array.getD_eq_getD_getElem?, ← Array.getElem?_toList, hv] at this
          exact this
    have hst1 := rT_stable hst l c (X .ready none)
    have hst2 := rT_stable hst l c (X .busy none)
    refine vcC_sound (ρ := some l) (n := n) hT hst1 (noY_ok _ _ _ _ _ _) (hD _ _ _ _ _ hst1) (noR_ok _ _ _ _ _ _) assign _ c _ _ _ hvc s0 fun e s1 d a1 hk1 hs1 => ?_
    cases e with
    | normal =>
      have hr1 := hs1.tt
      obtain ⟨g1, g2, g3, g4, g5⟩ := hr1
      refine ⟨_, run_beginRound g3 rfl, ?_⟩
      have hev := ev_put g4 g5 (.loop (X .busy none))
      obtain ⟨hg', hrel'⟩ := hev.good hs1.good
      have hs2 : Sim (rT T l c (X .busy none)) none (a.tmps.toList ++ G) s1 ⟨d.w.putObj l (.loop (X .busy none)), d.ok, d.μ, d.yl⟩ a1 := by
        refine ⟨hs1.sz, fun j => hrel' _ _ (hs1.tm j), hg', hs1.gh.imp fun _ _ _ h => hrel' _ _ h, ?_, rT_put hse hml hs1.tt _⟩
        obtain ⟨rs1, hd1⟩ := hs1.df
        generalize a1.defers = ds at hd1 ⊢
        cases hd1 with
        | nil => exact ⟨[], .nil⟩
        | cons _ _ hb => obtain ⟨m', hm', _⟩ := hb; cases hm'
      refine vcC_sound (ρ := some l) (n := n) hT hst2 (noY_ok _ _ _ _ _ _) (hD _ _ _ _ _ hst2) (noR_ok _ _ _ _ _ _) body s1 ⟨d.w.putObj l (.loop (X .busy none)), d.ok, d.μ, d.yl⟩ a1 _ _ hk1 hs2 fun e s3 d3 a3 hk3 hs3 => ?_
      have hfin : ∀ (X' : Loop), ∀ s', s' = back nt s3 → ∃ c', c' = (⟨d3.w.putObj l (.loop X'), d3.ok, d3.μ, d3.yl⟩ : Cx) ∧ RFr l c c' ∧ ¬ c'.own l ∧ ¬ c'.ok l ∧ Df (some m) c' a.defers rs ∧ c'.w.heap[l]? = some (.loop X') ∧ Sim T (some m) G s' c' a := fun X' s' hs' => by
        have ht := rT_put hse hml hs3.tt X'
        obtain ⟨t1, t2, t3, t4, t5⟩ := ht
        have hev := ev_put hs3.tt.2.2.2.1 hs3.tt.2.2.2.2 (.loop X')
        obtain ⟨hg', hrel'⟩ := hev.good hs3.good
        have hd' : Df (some m) ⟨d3.w.putObj l (.loop X'), d3.ok, d3.μ, d3.yl⟩ a.defers rs := h3.rfr t2 hlr
        refine ⟨_, rfl, t2, t4, t5, hd', t3, ?_⟩
        rw [hs']
        have hs4 : Sim (fun _ _ => True) none (a.tmps.toList ++ G) s3 ⟨d3.w.putObj l (.loop X'), d3.ok, d3.μ, d3.yl⟩ { a3 with defers := [] } := ⟨hs3.sz, fun j => hrel' _ _ (hs3.tm j), hg', hs3.gh.imp fun _ _ _ h => hrel' _ _ h, ⟨[], .nil⟩, trivial⟩
        exact back_sim hs4 hnt hd' t1
      have h3l := hs3.tt.2.2.1
      cases e with
      | normal =>
        obtain ⟨c', hc', r1, r2, r3, r4, r5, r6⟩ := hfin (X .ready none) _ rfl
        obtain ⟨hkw, hkI⟩ : Wk (back nt s3) (F (i + 1)) ∧ I (i + 1) := hk3
        obtain ⟨c'', hw'', hfr'', hs''⟩ := hkw.2 T (some m) G hst c' a r6
        refine ⟨_, _, run_endRound none h3l, true, c'', rfl, by rw [hw'', hc']; rfl, r1.fr hfr'', ?_⟩
        have hlt' : l < c'.w.heap.size := (Array.getElem?_eq_some_iff.1 r5).1
        refine ⟨fun h => (hfr''.own l h).elim r2 fun h => by omega, fun h => (hfr''.ok l h).elim r3 fun h => h.elim r2 fun h => by omega, r4.fr hfr'', hkI, by rw [hw'']; exact r5, hs''⟩
      | ret =>
        obtain ⟨c', hc', r1, r2, r3, r4, r5, r6⟩ := hfin (X .done (some .ret)) _ rfl
        exact ⟨_, _, run_endRound (some .ret) h3l, false, c', rfl, by rw [hc']; rfl, r1, r2, r3, r4, .ret, .ret, _, rfl, hk3, r5, r6⟩
      | exit j =>
        obtain ⟨c', hc', r1, r2, r3, r4, r5, r6⟩ := hfin (X .done (some (.exit j))) _ rfl
        exact ⟨_, _, run_endRound (some (.exit j)) h3l, false, c', rfl, by rw [hc']; rfl, r1, r2, r3, r4, .exit j, .exit j, _, rfl, hk3, r5, r6⟩
      | _ => exact hk3.elim
    | _ => exact hk1.elim
theorem rf_ok (hT : TyOk P Γ) {D : List Oper → St → (St → Prop) → Prop} (hD : ∀ T base G ρ n, Stable T → DOk P T base G ρ n D) (hst : Stable T) (hse : StE T (some m)) (hm : ∀ y c, T y c → m ≤ c.w.heap.size) (n : Nat) : ROk P T (some m) G none n (vcRF P Γ D) := by
  intro f ps assign body s Q c a Q' h hs hQ
  simp only [vcRF, frc_eq] at h
  have hf := hs.eval f
  split at h
  · rename_i g caps hp
    rw [hp] at hf
    obtain ⟨hpc, items, hIT, F, I, hwk, hI0, hF, hend⟩ := h
    obtain ⟨us, ef, h2⟩ := hf.fn_inv
    obtain ⟨c0, hw0, hf0, hs0⟩ := hwk.2 T (some m) G hst c a hs
    have hcaps : F2 (R0 c.w c.ok) caps us := h2.imp fun av v ha hr => pureC_r0 hr (List.all_eq_true.1 hpc av ha)
    have hcaps0 : F2 (R0 c0.w c0.ok) caps us := hcaps.imp fun _ _ _ h => hf0.r0 hs.good.okd h
    have hmw := hm _ _ hs.tt
    refine wpIn_rangeFunc fun fn _ => ?_
    let X : LoopState → Option Code → Loop := fun st p => { state := st, pending := p, fn := fn, tmps := a.tmps, params := ps, assign := assign, body := body, defers := c.w.heap.size }
    let w1 : World := (c.w.alloc (.deferred (some []))).alloc (.loop (X .ready none))
    let mark : Deferred := { target := .collected c.w.heap.size, args := #[] }
    have henter := run_enterLoop_outer (P := P) (w := c.w) fn a.tmps ps assign body
    have hcall : (resolve a.eval (rangeCall f (c.w.heap.size + 1)) 0).run P w1 = .ok { target := .fn (.func g) us.toArray, args := #[Value.func (.yield (c.w.heap.size + 1)) #[] #[]] } w1 := by
      unfold resolve
      simp only [rangeCall]
      rw [ef]
      have e : (#[Operand.const (Value.func (.yield (c.w.heap.size + 1)) #[] #[])] : Array Operand).map a.eval = #[Value.func (.yield (c.w.heap.size + 1)) #[] #[]] := by simp [Act.eval]
      rw [e]
      simp [Deferred.ofValue]
    refine ⟨_, _, _, _, _, g, (Value.func (.yield (c.w.heap.size + 1)) #[] #[] :: us).toArray, w1, henter, hcall, fun _ _ => trivial, ?_, fun hd => by simp [Fx, Fence.wide] at hd, ?_⟩
    · have e : #[Value.func (.yield (c.w.heap.size + 1)) #[] #[]] ++ us.toArray = (Value.func (.yield (c.w.heap.size + 1)) #[] #[] :: us).toArray := by simp
      simp only [invoke, e]
      exact hIT.1 _ _
    · obtain ⟨rs, hdf⟩ := hs0.df
      have hsz : w1.heap.size = c.w.heap.size + 2 := by simp [w1]
      have hold : ∀ b, b < c.w.heap.size → w1.heap[b]? = c.w.heap[b]? := fun b hb => by
        rw [show w1.heap[b]? = (c.w.alloc (.deferred (some []))).heap[b]? from Below.heap_alloc _ _ _ (by simp; omega), Below.heap_alloc _ _ _ hb]
      let c1 : Cx := ⟨w1, c0.ok, c0.μ, c0.yl⟩
      have hev : Ev (fun _ => True) c0 c1 := ⟨by rw [hw0]; rfl, by rw [hw0]; rfl, by rw [hw0]; rfl, by rw [hw0]; show _ ≤ w1.heap.size; omega, fun b hb _ => by rw [hw0] at hb ⊢; exact hold b hb, rfl, rfl, rfl⟩
      have hs1 := hs0.ev hse hdf hev (fun _ _ => trivial) fun _ _ => trivial
      have hd1 := hdf.ev hev fun _ _ => trivial
      have hlt0 : ∀ b, c0.own b ∨ c0.ok b → b < c.w.heap.size := fun b hb => by rw [← hw0]; exact hb.elim hs0.good.lt fun h => (hs0.good.okd b h).1
      have hrs := hdf.lt
      have hmark : Df (some m) c1 (mark :: a.defers) (c.w.heap.size :: rs) := by
        refine .cons rfl ?_ ⟨m, rfl, hmw⟩ (fun ho => by have := hlt0 _ (.inl ho); omega) (fun ho => by have := hlt0 _ (.inr ho); omega) (fun hr => by have := hrs _ hr; rw [hw0] at this; omega) hd1
        show w1.heap[c.w.heap.size]? = _
        rw [show w1.heap[c.w.heap.size]? = (c.w.alloc (.deferred (some []))).heap[c.w.heap.size]? from Below.heap_alloc _ _ _ (by simp)]
        exact heap_alloc_new _ _
      have hnl : c.w.heap.size + 1 ∉ c.w.heap.size :: rs := fun hr => by
        rcases List.mem_cons.1 hr with h | h
        · omega
        · have := hrs _ h; rw [hw0] at this; omega
      have hs1' : Sim T (some m) G (F 0) c1 { a with defers := mark :: a.defers } := ⟨hs1.sz, hs1.tm, hs1.good, hs1.gh, ⟨_, hmark⟩, hs1.tt⟩
      have hl1 : w1.heap[c.w.heap.size + 1]? = some (.loop (X .ready none)) := by
        have := heap_alloc_new (c.w.alloc (.deferred (some []))) (.loop (X .ready none))
        have e : (c.w.alloc (.deferred (some []))).heap.size = c.w.heap.size + 1 := by simp
        rw [e] at this
        exact this
      have hcons := cons_ok (P := P) (G := G) (fn := fn) (a := { a with defers := mark :: a.defers }) (df := c.w.heap.size) (rs := c.w.heap.size :: rs) hT hD hst hse (Q := Q) (items := items) (F := F) (I := I) (l := c.w.heap.size + 1) (by omega) hnl (nt := s.nt) hs.sz hF
      have hK0 : cK T (some m) G Q F I (c.w.heap.size + 1) X { a with defers := mark :: a.defers } (c.w.heap.size :: rs) (some 0) c1 :=
        ⟨fun ho => by have := hlt0 _ (.inl ho); omega, fun ho => by have := hlt0 _ (.inr ho); omega, hmark, hI0, hl1, hs1'⟩
      refine (hIT.2 (c.w.heap.size + 1) c1 us _ _ hcons hK0 (fun b hb => ?_) (fun b hb => (hs1.good.okd b hb).2) (hcaps0.imp fun _ _ _ h => hev.r0 (fun b hb => (hs0.good.okd b hb).1) h) (n - 1)).mono ?_
      · show b < w1.heap.size
        rcases hb with h | h | h
        · omega
        · omega
        · rcases List.mem_cons.1 h with h | h
          · omega
          · have := hrs _ h; rw [hw0] at this; omega
      · rintro e w' ⟨v, c', rfl, rfl, hK⟩
        have fin : ∀ (st : LoopState) (p : Option Code) (s' : St), c'.w.heap[c.w.heap.size + 1]? = some (.loop (X st p)) → ¬ c'.own (c.w.heap.size + 1) → ¬ c'.ok (c.w.heap.size + 1) → Df (some m) c' (mark :: a.defers) (c.w.heap.size :: rs) → Sim T (some m) G s' c' { a with defers := mark :: a.defers } →
            Sim T (some m) G s' ⟨c'.w.putObj (c.w.heap.size + 1) (.loop (X .exhausted p)), c'.ok, c'.μ, c'.yl⟩ { a with defers := mark :: a.defers } := fun st p s' h1 h2 h3 h4 h5 =>
          h5.ev hse h4 (ev_put h2 h3 _) (fun b ⟨m', hm', hb⟩ => by cases hm'; omega) fun r hr he => hnl (he ▸ hr)
        rcases hK with ⟨k1, k2, k3, kI, k4, k5⟩ | ⟨k1, k2, k3, e, j, s', k4, k5, k6, k7⟩
        · refine ⟨none, _, run_endLoop k4 (by simp), ?_⟩
          exact hQ _ _ _ _ (hend kI) (fin _ _ _ k4 k1 k2 k3 k5)
        · refine ⟨some j, _, run_endLoop k6 (by simp), ?_⟩
          have := fin _ _ _ k6 k1 k2 k3 k7
          cases e with
          | exit id => cases k4; exact wpIn_exit (hQ _ _ _ _ k5 this)
          | ret => cases k4; exact wpIn_ret (hQ _ _ _ _ k5 this)
          | _ => cases k4
  · exact h.elim
end
end Go.Proofs.Ytcfbhojpemjjpaa
