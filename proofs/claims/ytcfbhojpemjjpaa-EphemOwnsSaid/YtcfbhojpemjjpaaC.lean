/- Loops over functions. -/
import Derived.Test.YtcfbhojpemjjpaaA
set_option linter.unusedVariables false
set_option linter.unusedSimpArgs false
namespace Go.Proofs.Ytcfbhojpemjjpaa
open Go Go.RowKit

/-- What a round may do: its own blocks are turned, and its loop's record. -/
structure RFr (l : Nat) (c d : Cx) : Prop where
  os : d.w.os = c.w.os
  tape : d.w.tape = c.w.tape
  output : d.w.output = c.w.output
  size : c.w.heap.size ≤ d.w.heap.size
  same : ∀ b, b < c.w.heap.size → ¬ c.own b → b ≠ l → d.w.heap[b]? = c.w.heap[b]?
  own : ∀ b, d.own b → c.own b ∨ c.w.heap.size ≤ b
  ok : ∀ b, d.ok b → c.ok b ∨ c.own b ∨ c.w.heap.size ≤ b
theorem RFr.refl (l : Nat) (c : Cx) : RFr l c c := ⟨rfl, rfl, rfl, Nat.le_refl _, fun _ _ _ _ => rfl, fun _ h => .inl h, fun _ h => .inl h⟩
theorem RFr.fr {l : Nat} {c d e : Cx} (h : RFr l c d) (k : Fr d e) : RFr l c e := by
  refine ⟨k.os.trans h.os, k.tape.trans h.tape, k.output.trans h.output, Nat.le_trans h.size k.size, fun b hb hn hl => ?_, fun b hb => ?_, fun b hb => ?_⟩
  · rw [k.same b (Nat.lt_of_lt_of_le hb h.size) (fun hd => (h.own b hd).elim hn fun hle => by omega), h.same b hb hn hl]
  · rcases k.own b hb with h1 | h1
    · exact h.own b h1
    · exact .inr (Nat.le_trans h.size h1)
  · rcases k.ok b hb with h1 | h1 | h1
    · exact h.ok b h1
    · rcases h.own b h1 with h2 | h2
      · exact .inr (.inl h2)
      · exact .inr (.inr h2)
    · exact .inr (.inr (Nat.le_trans h.size h1))
/-- The loop's side, as an iterator sees it: K y: so many things have been taken (none: it has had enough). -/
structure Cons (P : Program) (l : Nat) (items : List (List AV)) (Pr : Nat → Prop) (K : Option Nat → Cx → Prop) : Prop where
  ev : ∀ y c c', Ev Pr c c' → K y c → K y c'
  lt : ∀ y c b, K y c → (c.own b ∨ c.ok b) → b < c.w.heap.size
  apart : ∀ y c, K y c → ¬ c.own l ∧ ¬ c.ok l
  pr : Pr l
  round : ∀ i x c vs, K (some i) c → items[i]? = some x → F2 (R0 c.w c.ok) x vs → ∃ f tmps assign body, (Instr.yield l vs.toArray).run P c.w = .ok (.round l f tmps assign body) c.w ∧
    ∀ n, RoundIn Fence.wide n P l f tmps assign body c.w fun e w' => ∃ b c', e = .returned (.bool b) ∧ c'.w = w' ∧ RFr l c c' ∧ K (bif b then some (i + 1) else none) c'
/-- The iterator g hands over items, one by one, till it is told that it is enough. -/
def IT (P : Program) (g : FuncId) (caps : List AV) (items : List (List AV)) : Prop :=
  (∀ as w, (callFunc g as).run P w = .ok (.enter g as) w) ∧
  ∀ (l : Nat) (c : Cx) (us : List Value) (Pr : Nat → Prop) (K : Option Nat → Cx → Prop), Cons P l items Pr K → K (some 0) c → (∀ b, Pr b → b < c.w.heap.size) → (∀ b, c.ok b → ¬ c.own b) → F2 (R0 c.w c.ok) caps us → ∀ n,
    CallsIn Fence.wide n P g (Value.func (.yield l) #[] #[] :: us).toArray c.w fun e w' => ∃ v c', e = .returned v ∧ c'.w = w' ∧ (K (some items.length) c' ∨ K none c')

theorem Ev.r0 {Pr : Nat → Prop} {c c' : Cx} (h : Ev Pr c c') (hl : ∀ b, c.ok b → b < c.w.heap.size) {a : AV} {v : Value} (hr : R0 c.w c.ok a v) : R0 c'.w c'.ok a v :=
  hr.mono (fun b hb => by rw [h.ok]; exact hb) fun b hb => h.same b (hl b hb) (.inr (.inr hb))
/-- The walk's knowledge outlives what goes on elsewhere. -/
theorem Ev.good {Pr : Nat → Prop} {c c' : Cx} {L : Nat → Blk} (h : Ev Pr c c') (hg : Good c L) : Good c' L ∧ ∀ a v, Rel c a v → Rel c' a v := by
  have hr0 : ∀ a v, R0 c.w c.ok a v → R0 c'.w c'.ok a v := fun a v => h.r0 fun b hb => (hg.okd b hb).1
  have hrel : ∀ a v, Rel c a v → Rel c' a v := fun a v hr => hr.mono hr0 h.yl fun i e he => by rw [h.μ]; exact he
  have hown : ∀ b, c'.own b → c.own b := fun b ⟨i, e, hi, hn, hb⟩ => ⟨i, e, by rw [← h.μ]; exact hi, hn, hb⟩
  refine ⟨⟨fun i hi => ?_, fun i e he => hg.dom i e (by rw [← h.μ]; exact he), fun i j e e' he he' => hg.inj i j e e' (by rw [← h.μ]; exact he) (by rw [← h.μ]; exact he'), fun b hb => ?_⟩, hrel⟩
  · obtain ⟨e, he, hr⟩ := hg.blk i hi
    exact ⟨e, by rw [h.μ]; exact he, hr.keep hrel hr0 fun hn => h.same _ (hr.lt hn) (.inr (.inl ⟨i, e, he, hn, rfl⟩))⟩
  · rw [h.ok] at hb
    have := hg.okd b hb
    exact ⟨Nat.lt_of_lt_of_le this.1 h.size, fun ho => this.2 (hown b ho)⟩
theorem Df.ev {base : Option Nat} {c c' : Cx} {ds : List Deferred} {rs : List Nat} {Pr : Nat → Prop} (h : Df base c ds rs) (he : Ev Pr c c') (hp : ∀ r ∈ rs, Pr r) : Df base c' ds rs := by
  induction h with
  | nil => exact .nil
  | @cons x xs r rs ht hh hb ho hk hn _ ih =>
    have hlt : r < c.w.heap.size := (Array.getElem?_eq_some_iff.1 hh).1
    refine .cons ht (by rw [he.same r hlt (.inl (hp r (by simp)))]; exact hh) hb (fun ⟨i, e, hi, hn, hb⟩ => ho ⟨i, e, by rw [← he.μ]; exact hi, hn, hb⟩) (by rw [he.ok]; exact hk) hn (ih fun r hr => hp r (by simp [hr]))
theorem Sim.ev {T : Option Nat → Cx → Prop} {base : Option Nat} {G : List Value} {s : St} {c c' : Cx} {a : Act} {Pr : Nat → Prop} (hse : StE T base) (h : Sim T base G s c a) {rs : List Nat} (hd : Df base c a.defers rs) (he : Ev Pr c c') (hb : ∀ b, below base b → Pr b) (hp : ∀ r ∈ rs, Pr r) : Sim T base G s c' a := by
  obtain ⟨g1, g2⟩ := he.good h.good
  exact ⟨h.sz, fun i => g2 _ _ (h.tm i), g1, h.gh.imp fun _ _ _ h => g2 _ _ h, ⟨rs, hd.ev he hp⟩, hse _ _ _ ⟨he.os, he.tape, he.output, he.size, fun b hb' h => he.same b hb' (h.imp (hb b) fun h => h), he.μ, he.ok, he.yl⟩ h.tt⟩

/-- An iterator's calls of yield. -/
def itY (items : List (List AV)) (as : List AV) (s : St) (k : AV → St → Prop) : Prop :=
  ∃ i x, s.y = some i ∧ items[i]? = some x ∧ as = x ∧ x.all (flat 8) = true ∧ k (.bool true) { s with y := some (i + 1) } ∧ k (.bool false) { s with y := none }
def itPost (m : Nat) : Exit → St → Prop
  | .normal, s => s.y = some m ∨ s.y = none
  | .ret, s => s.y = some m ∨ s.y = none
  | _, _ => False
def noR : Operand → Array Tmp → Code → Code → (Exit → St → Prop) → St → Prop := fun _ _ _ _ _ _ => False
theorem noR_ok (P : Program) (T : Option Nat → Cx → Prop) (base : Option Nat) (G : List Value) (ρ : Option Nat) (n : Nat) : ROk P T base G ρ n noR := fun _ _ _ _ _ _ _ _ _ h => h.elim
def itT (K : Option Nat → Cx → Prop) (Pr : Nat → Prop) (l : Nat) (y : Option Nat) (d : Cx) : Prop :=
  ∃ c, c.w = d.w ∧ K y c ∧ (∀ b, d.own b → ¬ Pr b ∧ ¬ c.own b ∧ ¬ c.ok b) ∧ (∀ b, d.ok b → ¬ c.own b ∧ b ≠ l) ∧ d.yl = some l ∧ ∀ b, Pr b → b < d.w.heap.size
section
variable {P : Program} {l : Nat} {items : List (List AV)} {Pr : Nat → Prop} {K : Option Nat → Cx → Prop}
theorem flats {w w' : World} {ok ok' : Nat → Prop} {x : List AV} {vs : List Value} (h : F2 (R0 w ok) x vs) (hf : x.all (flat 8) = true) : F2 (R0 w' ok') x vs :=
  h.imp fun a v ha hr => flat_r0 8 a v (List.all_eq_true.1 hf a ha) hr
theorem rel_flat {c : Cx} : ∀ (n : Nat) (a : AV) (v : Value), flat n a = true → Rel c a v → R0 c.w c.ok a v := by
  intro n
  induction n with
  | zero =>
    intro a v hf h
    cases a <;> simp [flat] at hf
    · rw [h.int_inv]; exact .int _ _
    · rw [h.bool_inv]; exact .bool _
  | succ n ih =>
    intro a v hf h
    cases a <;> simp [flat] at hf
    · rw [h.int_inv]; exact .int _ _
    · rw [h.bool_inv]; exact .bool _
    · obtain ⟨vs, rfl, h2⟩ := h.agg_inv
      exact .agg h2.length fun i a v ha hv => by
        obtain ⟨u, hu, hr⟩ := h2.get i ha
        rw [hu] at hv; cases hv
        exact ih _ _ (hf _ (List.mem_of_getElem? ha)) hr
    · obtain ⟨vs, rfl, h2⟩ := h.tup_inv
      exact .tup h2.length fun i a v ha hv => by
        obtain ⟨u, hu, hr⟩ := h2.get i ha
        rw [hu] at hv; cases hv
        exact ih _ _ (hf _ (List.mem_of_getElem? ha)) hr
theorem itT_stable (hc : Cons P l items Pr K) : Stable (itT K Pr l) := by
  rintro y d d' hf ⟨c, hw, hk, h1, h2, h3, h4⟩
  have hlt : ∀ b, c.own b ∨ c.ok b → b < d.w.heap.size := fun b hb => by rw [← hw]; exact hc.lt y c b hk hb
  have hev : Ev Pr c ⟨d'.w, c.ok, c.μ, c.yl⟩ := by
    refine ⟨by rw [hw]; exact hf.os, by rw [hw]; exact hf.tape, by rw [hw]; exact hf.output, by rw [hw]; exact hf.size, fun b hb hp => ?_, rfl, rfl, rfl⟩
    rw [hw] at hb ⊢
    refine hf.same b hb fun ho => ?_
    obtain ⟨g1, g2, g3⟩ := h1 b ho
    exact hp.elim g1 fun h => h.elim g2 g3
  refine ⟨⟨d'.w, c.ok, c.μ, c.yl⟩, rfl, hc.ev _ _ _ hev hk, fun b hb => ?_, fun b hb => ?_, hf.yl.trans h3, fun b hb => Nat.lt_of_lt_of_le (h4 b hb) hf.size⟩
  · rcases hf.own b hb with h | h
    · exact h1 b h
    · exact ⟨fun hp => by have := h4 b hp; omega, fun ho => by have := hlt b (.inl ho); omega, fun ho => by have := hlt b (.inr ho); omega⟩
  · rcases hf.ok b hb with h | h | h
    · exact h2 b h
    · obtain ⟨g1, g2, g3⟩ := h1 b h
      exact ⟨g2, fun he => g1 (by rw [he]; exact hc.pr)⟩
    · exact ⟨fun ho => by have := hlt b (.inl ho); omega, fun he => by have := h4 l hc.pr; omega⟩
theorem itY_ok (hc : Cons P l items Pr K) (n : Nat) : YOk P (itT K Pr l) none [] none n (itY items) := by
  intro o cl f s d a k next Q ho hcl hf hdo hs hy hk
  obtain ⟨i, x, hsy, hx, hax, hfl, h1, h2⟩ := hy
  obtain ⟨c, hw, hK, g1, g2, g3, g4⟩ := hs.tt
  rw [hsy] at hK
  have hr := hs.eval f
  rw [hf] at hr
  obtain ⟨l', hl', ef⟩ := hr.yld_inv
  rw [g3] at hl'
  cases hl'
  have hargs := F2.of_ops hs.eval cl.args.toList
  rw [hax] at hargs
  have hargs' : F2 (R0 d.w d.ok) x (cl.args.toList.map a.eval) := hargs.imp fun av v ha hr => rel_flat 8 av v (List.all_eq_true.1 hfl av ha) hr
  obtain ⟨f', tmps, assign, body, hrun, hround⟩ := hc.round i x c _ hK hx (flats hargs' hfl)
  have hdf : a.defers = [] := by
    obtain ⟨rs, hd⟩ := hs.df
    generalize a.defers = ds at hd
    cases hd with
    | nil => rfl
    | cons _ _ hb => obtain ⟨m, hm, _⟩ := hb; cases hm
  refine ⟨fun f _ => Fx_fn _ f, ?_⟩
  have hex : (execOp a.eval o).run P d.w = .ok (.round l f' tmps assign body) d.w := by
    have e : cl.args.map a.eval = (cl.args.toList.map a.eval).toArray := by rw [← Array.toList_map, Array.toArray_toList]
    rw [← hw, ← hrun]
    simp [execOp, ho, resolve, hcl, ef, Deferred.ofValue, invoke, e]
  rw [semAt_exec _ _ _ (by rw [ho]), hex]
  refine ⟨fun hd => by simp [Fx, Fence.wide] at hd, ?_⟩
  rw [← hw]
  refine (hround (n - 1)).mono ?_
  rintro e w' ⟨b, c', rfl, rfl, hrf, hK'⟩
  have hsame : ∀ b, b < d.w.heap.size → (d.own b ∨ d.ok b) → c'.w.heap[b]? = d.w.heap[b]? := fun b hb ho => by
    rw [← hw] at hb ⊢
    refine hrf.same b hb ?_ ?_
    · exact ho.elim (fun h => (g1 b h).2.1) fun h => (g2 b h).1
    · exact ho.elim (fun h he => (g1 b h).1 (by rw [he]; exact hc.pr)) fun h => (g2 b h).2
  have hr0 : ∀ a v, R0 d.w d.ok a v → R0 c'.w d.ok a v := fun a v h => h.mono (fun _ h => h) fun b hb => hsame b (hs.good.okd b hb).1 (.inr hb)
  have hrel : ∀ a v, Rel d a v → Rel ⟨c'.w, d.ok, d.μ, d.yl⟩ a v := fun a v h => Rel.mono (d := ⟨c'.w, d.ok, d.μ, d.yl⟩) hr0 rfl (fun _ _ h => h) h
  have hsz : d.w.heap.size ≤ c'.w.heap.size := by rw [← hw]; exact hrf.size
  have hgood : Good ⟨c'.w, d.ok, d.μ, d.yl⟩ s.L := ⟨fun i hi => by
      obtain ⟨e, he, hr⟩ := hs.good.blk i hi
      exact ⟨e, he, hr.keep hrel hr0 fun hn => hsame _ (hr.lt hn) (.inl ⟨i, e, he, hn, rfl⟩)⟩, hs.good.dom, hs.good.inj, fun b hb => ⟨Nat.lt_of_lt_of_le (hs.good.okd b hb).1 hsz, (hs.good.okd b hb).2⟩⟩
  have hdl : ∀ b, d.own b → b < c.w.heap.size := fun b hb => by rw [hw]; exact hs.good.lt hb
  have hsim : Sim (itT K Pr l) none [] { s with y := (bif b then some (i + 1) else none), t := putT s.t o.dst (.bool b) } ⟨c'.w, d.ok, d.μ, d.yl⟩ (a.put o.dst (.bool b)) := by
    refine ⟨?_, fun j => ?_, hgood, ?_, ?_, ⟨c', rfl, hK', fun b hb => ⟨(g1 b hb).1, fun ho => ?_, fun ho => ?_⟩, fun b hb => ⟨fun ho => ?_, (g2 b hb).2⟩, g3, fun b hb => Nat.lt_of_lt_of_le (g4 b hb) hsz⟩⟩
    · cases o.dst with
      | none => exact hs.sz
      | some t => simp only [Act.put, Array.size_setIfInBounds]; exact hs.sz
    · cases hd : o.dst with
      | none => exact hrel _ _ (hs.tm j)
      | some t =>
        have htn : t < a.tmps.size := by
          rw [hs.sz]
          rw [hd] at hdo
          simpa [dstOk, Nat.blt_eq] using hdo
        rw [getD_put a t _ j htn]
        show Rel _ (upd s.t t (.bool b) j) _
        by_cases hj : j = t
        · subst hj
          rw [upd_same, if_pos rfl]
          exact .pure (.bool _)
        · rw [upd_ne _ _ hj, if_neg hj]
          exact hrel _ _ (hs.tm j)
    · exact hs.gh.imp fun _ _ _ h => hrel _ _ h
    · refine ⟨[], ?_⟩
      have : (a.put o.dst (.bool b)).defers = a.defers := by cases o.dst <;> rfl
      rw [this, hdf]
      exact .nil
    · rcases hrf.own b ho with h | h
      · exact (g1 b hb).2.1 h
      · have := hdl b hb; omega
    · rcases hrf.ok b ho with h | h | h
      · exact (g1 b hb).2.2 h
      · exact (g1 b hb).2.1 h
      · have := hdl b hb; omega
    · rcases hrf.own b ho with h | h
      · exact (g2 b hb).1 h
      · have := (hs.good.okd b hb).1; rw [← hw] at this; omega
  cases b with
  | true => exact hk _ _ ⟨c'.w, d.ok, d.μ, d.yl⟩ _ h1 hsim
  | false => exact hk _ _ ⟨c'.w, d.ok, d.μ, d.yl⟩ _ h2 hsim
/-- An iterator's contract from its body. -/
theorem iter {Γ : Nat → Option TI} (hT : TyOk P Γ) {D : List Oper → St → (St → Prop) → Prop} {f : FuncId} {fn : Func} {code : Code} {caps : List AV} {items : List (List AV)} (hf : P.funcs[f]? = some fn) (hb : fn.body = some code) (hn : (fn.name == "runtime.NumGoroutine") = false)
    (hres : fn.results = #[]) (hnt : caps.length + 1 ≤ fn.ntmps) (hD : ∀ T base G n, Stable T → DOk P T base G none n D) (h : vcC P Γ (itY items) D noR code (itPost items.length) { st0 (.yld :: caps) fn.ntmps with y := some 0 }) : IT P f caps items := by
  refine ⟨fun as w => by have hn' : ¬ fn.name = "runtime.NumGoroutine" := (by simpa using hn); simp [callFunc, hf, hn', hb], fun l c us Pr K hc hK hPr hok hus n => ?_⟩
  refine callsIn_of_wp hf hb trivial ?_
  have hl := hus.length
  let d : Cx := ⟨c.w, c.ok, fun _ => none, some l⟩
  have hap := hc.apart _ _ hK
  have hs : Sim (itT K Pr l) none [] { st0 (.yld :: caps) fn.ntmps with y := some 0 } d { tmps := (Value.func (.yield l) #[] #[] :: us).toArray ++ Array.replicate (fn.ntmps - (Value.func (.yield l) #[] #[] :: us).toArray.size) undef, defers := [] } := by
    have hv : F2 (Rel d) (.yld :: caps) (Value.func (.yield l) #[] #[] :: us) := .cons (.yld l rfl) (hus.imp fun _ _ _ h => .pure h)
    refine ⟨by simp [st0]; omega, fun i => ?_, ⟨fun i hi => (by simp [st0, Blk.alive] at hi), fun i e he => (by cases he), fun i j e e' he => (by cases he), fun b hb => ⟨hc.lt (some 0) c b hK (.inr hb), fun ⟨i, e, he, _⟩ => (by cases he)⟩⟩, .nil, ⟨[], .nil⟩, ⟨c, rfl, hK, fun b ⟨i, e, he, _⟩ => (by cases he), fun b hb => ⟨hok b hb, fun he => hap.2 (by rw [← he]; exact hb)⟩, rfl, hPr⟩⟩
    show Rel d (arg (.yld :: caps) i) _
    unfold arg
    rw [Array.getD_eq_getD_getElem?]
    cases ha : (AV.yld :: caps)[i]? with
    | some v =>
      obtain ⟨u, hu, hr⟩ := hv.get i ha
      have hlt : i < (Value.func (.yield l) #[] #[] :: us).length := (List.getElem?_eq_some_iff.1 hu).1
      rw [Array.getElem?_append_left (by simpa using hlt)]
      simp only [List.getElem?_toArray, hu, Option.getD_some]
      exact hr
    | none =>
      have hge := List.getElem?_eq_none_iff.1 ha
      rw [Array.getElem?_append_right (by simp at hge ⊢; omega), Array.getElem?_replicate]
      have : ∀ p : Prop, [Decidable p] → (if p then some undef else none).getD undef = undef := fun p _ => by split <;> rfl
      rw [this]
      exact .pure .und
  refine vcC_sound (ρ := none) hT (itT_stable hc) (itY_ok hc n) (hD _ _ _ n (itT_stable hc)) (noR_ok _ _ _ _ _ _) code _ d _ _ _ h hs fun e s' d' a' hk hs' => ?_
  have hdf : a'.defers = [] := by
    obtain ⟨rs, hd⟩ := hs'.df
    generalize a'.defers = ds at hd
    cases hd with
    | nil => rfl
    | cons _ _ hb => obtain ⟨m, hm, _⟩ := hb; cases hm
  have key : (s'.y = some items.length ∨ s'.y = none) → (a'.defers = [] ∧ ∃ v, (results fn a'.tmps).run P d'.w = .ok v d'.w ∧ ∃ v' c', Ending.returned v = .returned v' ∧ c'.w = d'.w ∧ (K (some items.length) c' ∨ K none c')) := fun hy => by
    refine ⟨hdf, .tuple #[], by simp [results_eq, hres], .tuple #[], ?_⟩
    obtain ⟨c', hw', hK', _⟩ := hs'.tt
    refine ⟨c', rfl, hw', ?_⟩
    rcases hy with hy | hy
    · rw [hy] at hK'; exact .inl hK'
    · rw [hy] at hK'; exact .inr hK'
  cases e with
  | normal => exact key hk
  | ret => exact key hk
  | _ => exact hk.elim
end
end Go.Proofs.Ytcfbhojpemjjpaa
