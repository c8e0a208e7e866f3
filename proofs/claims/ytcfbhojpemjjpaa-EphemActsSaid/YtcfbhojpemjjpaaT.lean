/- An operation does what the walk says of it: calls; and all of them. -/
import Derived.Test.YtcfbhojpemjjpaaS
set_option linter.unusedVariables false
set_option linter.unusedSimpArgs false
namespace Go.Proofs.Ytcfbhojpemjjpaa
open Go Go.RowKit

section
variable {P : Program} {Γ : Nat → Option TI} {o : Oper} {a : Act} {c : Cx} {L : Nat → Blk} {np j : Nat} {ρ : Operand → AV} {k : Eff → Prop}

theorem good_nil {d : Cx} (hok : ∀ b, d.ok b → b < d.w.heap.size) (hμ : ∀ i, d.μ i = none) : Good d (lk []) :=
  ⟨fun i hi => (by simp [lk, Blk.alive] at hi), fun i e he => (by rw [hμ] at he; cases he), fun i j e e' he => (by rw [hμ] at he; cases he), fun b hb => ⟨hok b hb, fun ⟨i, e, he, _⟩ => (by rw [hμ] at he; cases he)⟩⟩
theorem mu_nil {d : Cx} (h : Good d (lk [])) (i : Nat) : d.μ i = none := by
  cases he : d.μ i with
  | none => rfl
  | some e => have := h.dom i e he; simp [lk, Blk.alive] at this
theorem rel_nil {d : Cx} (hμ : ∀ i, d.μ i = none) (hy : d.yl = none) {av : AV} {v : Value} (h : Rel d av v) : R0 d.w d.ok av v := by
  induction h with
  | pure h => exact h
  | fn f hl _ ih => exact .fn f hl ih
  | agg hl _ ih => exact .agg hl ih
  | tup hl _ ih => exact .tup hl ih
  | yld l h => rw [hy] at h; cases h
  | ptr h _ => rw [hμ] at h; cases h
  | row _ _ h _ => rw [hμ] at h; cases h
  | rown h _ => rw [hμ] at h; cases h
  | rowf h => rw [hμ] at h; cases h
  | mp h _ => rw [hμ] at h; cases h
theorem flat_r0 {w w' : World} {ok ok' : Nat → Prop} : ∀ (n : Nat) (av : AV) (v : Value), flat n av = true → R0 w ok av v → R0 w' ok' av v := by
  intro n
  induction n with
  | zero =>
    intro av v hf h
    cases av <;> simp [flat] at hf
    · cases h; exact .int _ _
    · cases h; exact .bool _
  | succ n ih =>
    intro av v hf h
    cases av <;> simp [flat] at hf
    · cases h; exact .int _ _
    · cases h; exact .bool _
    · cases h with
      | agg hl h => exact .agg hl fun i a v ha hv => ih a v (hf a (List.mem_of_getElem? ha)) (h i a v ha hv)
    · cases h with
      | tup hl h => exact .tup hl fun i a v ha hv => ih a v (hf a (List.mem_of_getElem? ha)) (h i a v ha hv)
theorem F2.maps {α β γ : Type} {R : α → β → Prop} {S : γ → β → Prop} {l : List α} {m : List β} (h : F2 R l m) (g : α → γ) (hi : ∀ a b, R a b → S (g a) b) : F2 S (l.map g) m := h.map g fun a b _ => hi a b
theorem run_callf {cl : Call} {f : Operand} {g : FuncId} {us : List Value} (hc : cl.callee = .value f) (ho : o.op = .call cl) (hf : a.eval f = .func (.func g) #[] us.toArray) (w : World) :
    (execOp a.eval o).run P w = (callFunc g ((cl.args.toList.map a.eval) ++ us).toArray).run P w := by
  have : cl.args.map a.eval = (cl.args.toList.map a.eval).toArray := by rw [← Array.toList_map, Array.toArray_toList]
  simp [execOp, ho, resolve, hc, hf, Deferred.ofValue, invoke, this]

/-- A call that freezes what it is handed. -/
theorem call_fz {g : FuncId} {args : List AV} {r : AV} (l : List Nat) (hg : Good c L) (hal : l.all (fun i => (L i).alive) = true) (hC : C P g (args.map (pur L (memB l) 8)) r) {vs : List Value} (hv : F2 (Rel c) args vs) :
    CallsIn Fence.wide 0 P g vs.toArray c.w fun x w' => ∃ v d, d.w = w' ∧ x = .returned v ∧ Stp c L np { v := r, fz := l, rd := l } v d := by
  have hlt : ∀ b, okF c (memB l) b → b < c.w.heap.size := fun b hb => hb.elim (fun h => (hg.okd b h).1) fun ⟨i, e, _, he, hn, hbe⟩ => hg.lt ⟨i, e, he, hn, hbe⟩
  have g0 : Good ⟨c.w, okF c (memB l), fun _ => none, none⟩ (lk []) := good_nil hlt fun _ => rfl
  have hv' : F2 (Rel ⟨c.w, okF c (memB l), fun _ => none, none⟩) (args.map (pur L (memB l) 8)) vs := hv.maps _ fun a v h => .pure (pur_sound hg (memB l) 8 a v h)
  refine (hC.2 ⟨c.w, okF c (memB l), fun _ => none, none⟩ vs g0 hv').mono ?_
  rintro x w' ⟨v, d', hw, rfl, hfr, hgd, hr, _⟩
  obtain ⟨dz, hdw, hdok, hdf, hdg, hdr, hdp⟩ := fz_step hg l
  have hμ := mu_nil hgd
  have hr0 := rel_nil hμ hfr.yl hr
  have hno : ∀ b, ¬ (⟨c.w, okF c (memB l), fun _ => none, none⟩ : Cx).own b := fun b ⟨i, e, he, _⟩ => by cases he
  have hsame : ∀ b, b < c.w.heap.size → w'.heap[b]? = c.w.heap[b]? := fun b hb => by rw [← hw]; exact hfr.same b hb (hno b)
  have hsz : c.w.heap.size ≤ w'.heap.size := by rw [← hw]; exact hfr.size
  have hdl : ∀ b, dz.own b → b < c.w.heap.size := fun b hb => by rw [← hdw]; exact hdg.lt hb
  have hok' : ∀ b, d'.ok b → dz.ok b ∨ c.w.heap.size ≤ b := fun b hb => by
    rcases hfr.ok b hb with h | h | h
    · exact .inl (hdok b h)
    · exact absurd h (hno b)
    · exact .inr h
  have hz0 : ∀ a v, R0 dz.w dz.ok a v → R0 w' (fun b => dz.ok b ∨ d'.ok b) a v := fun a v h => h.mono (fun b hb => .inl hb) fun b hb => by
    rw [hsame b (by rw [← hdw]; exact (hdg.okd b hb).1), hdw]
  have hzr : ∀ a v, Rel dz a v → Rel ⟨w', fun b => dz.ok b ∨ d'.ok b, dz.μ, dz.yl⟩ a v := fun a v h => Rel.mono (d := ⟨w', fun b => dz.ok b ∨ d'.ok b, dz.μ, dz.yl⟩) hz0 rfl (fun _ _ h => h) h
  have hfrz : Fr dz ⟨w', fun b => dz.ok b ∨ d'.ok b, dz.μ, dz.yl⟩ :=
    ⟨by rw [hdw, ← hw]; exact hfr.os, by rw [hdw, ← hw]; exact hfr.tape, by rw [hdw, ← hw]; exact hfr.output, by rw [hdw]; exact hsz, fun b hb _ => by rw [hdw] at hb ⊢; exact hsame b hb, fun b hb => .inl hb,
      fun b hb => by
        rcases hb with hb | hb
        · exact .inl hb
        · rcases hok' b hb with h | h
          · exact .inl h
          · exact .inr (.inr (by rw [hdw]; exact h)), fun b hb => .inl hb, rfl⟩
  refine ⟨v, ⟨w', fun b => dz.ok b ∨ d'.ok b, dz.μ, dz.yl⟩, rfl, rfl, hdf.trans hfrz, ⟨fun i hi => ?_, hdg.dom, hdg.inj, fun b hb => ?_⟩, fun a u h => hzr _ _ (hdr a u h), .pure ?_, fun i _ hi => hdp i hi⟩
  · obtain ⟨e, he, hb⟩ := hdg.blk i hi
    exact ⟨e, he, hb.keep hzr hz0 fun hn => by rw [hdw]; exact hsame _ (hdl _ ⟨i, e, he, hn, rfl⟩)⟩
  · have key : ∀ b, dz.ok b → b < w'.heap.size ∧ ¬ dz.own b := fun b hb => ⟨by have := (hdg.okd b hb).1; rw [hdw] at this; omega, (hdg.okd b hb).2⟩
    rcases hb with hb | hb
    · exact key b hb
    · rcases hok' b hb with h | h
      · exact key b h
      · exact ⟨by rw [← hw]; exact (hgd.okd b hb).1, fun ho => by have := hdl b ho; omega⟩
  · have := hr0.mono (w' := w') (ok' := fun b => dz.ok b ∨ d'.ok b) (fun b hb => .inr hb) fun b hb => by rw [hw]
    exact this
/-- A call that looks, and hands back plain numbers. -/
theorem call_bo {g : FuncId} {args : List AV} {r : AV} (rd : List Nat) (hg : Good c L) (hfl : flat 8 r = true) (hC : C P g (args.map (pur L (fun _ => true) 8)) r) {vs : List Value} (hv : F2 (Rel c) args vs) :
    CallsIn Fence.wide 0 P g vs.toArray c.w fun x w' => ∃ v d, d.w = w' ∧ x = .returned v ∧ Stp c L np { v := r, rd := rd } v d := by
  have hlt : ∀ b, okF c (fun _ => true) b → b < c.w.heap.size := fun b hb => hb.elim (fun h => (hg.okd b h).1) fun ⟨i, e, _, he, hn, hbe⟩ => hg.lt ⟨i, e, he, hn, hbe⟩
  have g0 : Good ⟨c.w, okF c (fun _ => true), fun _ => none, none⟩ (lk []) := good_nil hlt fun _ => rfl
  have hv' : F2 (Rel ⟨c.w, okF c (fun _ => true), fun _ => none, none⟩) (args.map (pur L (fun _ => true) 8)) vs := hv.maps _ fun a v h => .pure (pur_sound hg (fun _ => true) 8 a v h)
  refine (hC.2 ⟨c.w, okF c (fun _ => true), fun _ => none, none⟩ vs g0 hv').mono ?_
  rintro x w' ⟨v, d', hw, rfl, hfr, hgd, hr, _⟩
  have hr0 := rel_nil (mu_nil hgd) hfr.yl hr
  have hno : ∀ b, ¬ (⟨c.w, okF c (fun _ => true), fun _ => none, none⟩ : Cx).own b := fun b ⟨i, e, he, _⟩ => by cases he
  have hsame : ∀ b, b < c.w.heap.size → w'.heap[b]? = c.w.heap[b]? := fun b hb => by rw [← hw]; exact hfr.same b hb (hno b)
  have hsz : c.w.heap.size ≤ w'.heap.size := by rw [← hw]; exact hfr.size
  have hz0 : ∀ a v, R0 c.w c.ok a v → R0 w' c.ok a v := fun a v h => h.mono (fun b hb => hb) fun b hb => hsame b (hg.okd b hb).1
  have hzr : ∀ a v, Rel c a v → Rel ⟨w', c.ok, c.μ, c.yl⟩ a v := fun a v h => Rel.mono (d := ⟨w', c.ok, c.μ, c.yl⟩) hz0 rfl (fun _ _ h => h) h
  refine ⟨v, ⟨w', c.ok, c.μ, c.yl⟩, rfl, rfl, ⟨by rw [← hw]; exact hfr.os, by rw [← hw]; exact hfr.tape, by rw [← hw]; exact hfr.output, hsz, fun b hb _ => hsame b hb, fun b hb => .inl hb, fun b hb => .inl hb, fun b hb => hb, rfl⟩,
    ⟨fun i hi => ?_, hg.dom, hg.inj, fun b hb => ⟨Nat.lt_of_lt_of_le (hg.okd b hb).1 hsz, (hg.okd b hb).2⟩⟩, hzr, .pure (flat_r0 8 r v hfl hr0), fun _ _ _ => rfl⟩
  obtain ⟨e, he, hb⟩ := hg.blk i hi
  exact ⟨e, he, hb.keep hzr hz0 fun hn => hsame _ (hg.lt ⟨i, e, he, hn, rfl⟩)⟩
/-- A call that freezes what it is handed, and hands back a row. -/
theorem call_nw {g : FuncId} {args : List AV} {ty sz : Nat} {xs : List (List AV)} (l : List Nat) (hnp : np ≤ j) (hg : Good c L) (hal : l.all (fun i => (L i).alive) = true) (hj : (L j).alive = false) (hC : CR P g (args.map (pur L (memB l) 8)) ty sz xs) {vs : List Value} (hv : F2 (Rel c) args vs) :
    CallsIn Fence.wide 0 P g vs.toArray c.w fun x w' => ∃ v d, d.w = w' ∧ x = .returned v ∧ Stp c L np { v := .rowf j, wr := [(j, .rows ty sz xs)], fz := l, rd := j :: l, al := 1 } v d := by
  have hlt : ∀ b, okF c (memB l) b → b < c.w.heap.size := fun b hb => hb.elim (fun h => (hg.okd b h).1) fun ⟨i, e, _, he, hn, hbe⟩ => hg.lt ⟨i, e, he, hn, hbe⟩
  have g0 : Good ⟨c.w, okF c (memB l), fun _ => none, none⟩ (lk []) := good_nil hlt fun _ => rfl
  have hv' : F2 (Rel ⟨c.w, okF c (memB l), fun _ => none, none⟩) (args.map (pur L (memB l) 8)) vs := hv.maps _ fun a v h => .pure (pur_sound hg (memB l) 8 a v h)
  refine (hC.2 ⟨c.w, okF c (memB l), fun _ => none, none⟩ vs g0 hv').mono ?_
  rintro x w' ⟨v, d', hw, rfl, hfr, hgd, hr, _⟩
  obtain ⟨dz, hdw, hdok, hdf, hdg, hdr, hdp⟩ := fz_step hg l
  obtain ⟨e0, he0, rfl⟩ := hr.rowf_inv
  have hB0 : BlkRel d' (.rows ty sz xs) e0 := by
    obtain ⟨e1, he1, hB⟩ := hgd.blk 0 rfl
    rw [he0] at he1; cases he1
    exact hB
  have hno : ∀ b, ¬ (⟨c.w, okF c (memB l), fun _ => none, none⟩ : Cx).own b := fun b ⟨i, e, he, _⟩ => by cases he
  have hsame : ∀ b, b < c.w.heap.size → w'.heap[b]? = c.w.heap[b]? := fun b hb => by rw [← hw]; exact hfr.same b hb (hno b)
  have hsz : c.w.heap.size ≤ w'.heap.size := by rw [← hw]; exact hfr.size
  have hdl : ∀ b, dz.own b → b < c.w.heap.size := fun b hb => by rw [← hdw]; exact hdg.lt hb
  have hnew : e0.nil = false → c.w.heap.size ≤ e0.b := fun hn => (hfr.own e0.b ⟨0, e0, he0, hn, rfl⟩).resolve_left (hno _)
  have hok' : ∀ b, d'.ok b → dz.ok b ∨ c.w.heap.size ≤ b := fun b hb => by
    rcases hfr.ok b hb with h | h | h
    · exact .inl (hdok b h)
    · exact absurd h (hno b)
    · exact .inr h
  have hjL : (fzL l L j).alive = false := by
    cases l with
    | nil => exact hj
    | cons i l =>
      simp only [fzL]
      cases memB (i :: l) j with
      | true => rfl
      | false => simp only [cond_false]; rw [alive_map']; exact hj
  have hjz : dz.μ j = none := by
    cases h : dz.μ j with
    | none => rfl
    | some x => have := hdg.dom j x h; rw [hjL] at this; cases this
  let d : Cx := ⟨w', fun b => dz.ok b ∨ d'.ok b, upd dz.μ j (some e0), dz.yl⟩
  have hμ : ∀ i e, dz.μ i = some e → d.μ i = some e := fun i e hi => by
    show upd dz.μ j (some e0) i = some e
    rw [upd_ne _ _ (fun hij => by subst hij; rw [hjz] at hi; cases hi)]
    exact hi
  have hcase : ∀ i e, d.μ i = some e → (i = j ∧ e = e0) ∨ (i ≠ j ∧ dz.μ i = some e) := fun i e hi => by
    change upd dz.μ j (some e0) i = some e at hi
    by_cases hij : i = j
    · subst hij; rw [upd_same] at hi; cases hi; exact .inl ⟨rfl, rfl⟩
    · rw [upd_ne _ _ hij] at hi; exact .inr ⟨hij, hi⟩
  have hz0 : ∀ a v, R0 dz.w dz.ok a v → R0 d.w d.ok a v := fun a v h => h.mono (fun b hb => .inl hb) fun b hb => by
    show w'.heap[b]? = _
    rw [hsame b (by rw [← hdw]; exact (hdg.okd b hb).1), hdw]
  have hzr : ∀ a v, Rel dz a v → Rel d a v := fun a v h => Rel.mono (d := d) hz0 rfl hμ h
  have hown : ∀ b, d.own b → dz.own b ∨ (c.w.heap.size ≤ b ∧ e0.nil = false ∧ e0.b = b) := fun b ⟨i, e, hi, hn, hb⟩ => by
    rcases hcase i e hi with ⟨rfl, rfl⟩ | ⟨_, hi⟩
    · exact .inr ⟨by rw [← hb]; exact hnew hn, hn, hb⟩
    · exact .inl ⟨i, e, hi, hn, hb⟩
  have hfrz : Fr dz d :=
    ⟨by rw [hdw, show d.w = d'.w from hw.symm]; exact hfr.os, by rw [hdw, show d.w = d'.w from hw.symm]; exact hfr.tape, by rw [hdw, show d.w = d'.w from hw.symm]; exact hfr.output, by rw [hdw]; exact hsz, fun b hb _ => by rw [hdw] at hb ⊢; exact hsame b hb,
      fun b hb => (hown b hb).imp (fun h => h) fun h => by rw [hdw]; exact h.1,
      fun b hb => by
        rcases hb with hb | hb
        · exact .inl hb
        · rcases hok' b hb with h | h
          · exact .inl h
          · exact .inr (.inr (by rw [hdw]; exact h)), fun b hb => .inl hb, rfl⟩
  have hB : BlkRel d (.rows ty sz xs) e0 := by
    cases hB0 with
    | rows vs h1 h2 hs hn hz h0 h3 =>
      refine .rows vs (by show w'.ownsRow _ _ _ _ _ _; rw [← hw]; exact h1) (h2.imp fun a u _ h => ?_) hs hn hz h0 h3
      exact h.mono (w' := d.w) (ok' := d.ok) (fun b hb => .inr hb) fun b hb => by show w'.heap[b]? = _; rw [hw]
  have hL : ∀ i, i ≠ j → apL L { v := .rowf j, wr := [(j, .rows ty sz xs)], fz := l, rd := j :: l, al := 1 } i = fzL l L i := fun i hi => upd_ne _ _ hi
  have hLj : apL L { v := .rowf j, wr := [(j, .rows ty sz xs)], fz := l, rd := j :: l, al := 1 } j = .rows ty sz xs := upd_same _ _ _
  refine ⟨_, d, rfl, rfl, hdf.trans hfrz, ⟨fun i hi => ?_, fun i e he => ?_, fun i k e e' he he' hn hn' hbb => ?_, fun b hb => ?_⟩, fun a u h => hzr _ _ (hdr a u h), .rowf (e := e0) (upd_same _ _ _), fun i hi hal => ?_⟩
  · by_cases hij : i = j
    · subst hij
      rw [hLj]
      exact ⟨e0, upd_same _ _ _, hB⟩
    · rw [hL i hij] at hi ⊢
      obtain ⟨e, he, hb⟩ := hdg.blk i hi
      exact ⟨e, hμ _ _ he, hb.keep hzr hz0 fun hn => by show w'.heap[e.b]? = _; rw [hdw]; exact hsame _ (hdl _ ⟨i, e, he, hn, rfl⟩)⟩
  · rcases hcase i e he with ⟨rfl, rfl⟩ | ⟨hij, he⟩
    · rw [hLj]; rfl
    · rw [hL i hij]; exact hdg.dom i e he
  · rcases hcase i e he with ⟨h1, h2⟩ | ⟨hij, hez⟩ <;> rcases hcase k e' he' with ⟨h3, h4⟩ | ⟨hkj, hez'⟩
    · rw [h1, h3]
    · have h5 := hdl _ ⟨k, e', hez', hn', rfl⟩
      have h6 := hnew (by rw [← h2]; exact hn)
      rw [h2] at hbb
      omega
    · have h5 := hdl _ ⟨i, e, hez, hn, rfl⟩
      have h6 := hnew (by rw [← h4]; exact hn')
      rw [h4] at hbb
      omega
    · exact hdg.inj i k e e' hez hez' hn hn' hbb
  · have key : ∀ b, dz.ok b → b < w'.heap.size ∧ ¬ d.own b := fun b hb => by
      have h1 := (hdg.okd b hb).1
      rw [hdw] at h1
      refine ⟨by omega, fun ho => ?_⟩
      rcases hown b ho with h | h
      · exact (hdg.okd b hb).2 h
      · omega
    rcases hb with hb | hb
    · exact key b hb
    · rcases hok' b hb with h | h
      · exact key b h
      · refine ⟨by show b < w'.heap.size; rw [← hw]; exact (hgd.okd b hb).1, fun ho => ?_⟩
        rcases hown b ho with h' | ⟨_, hn, hbe⟩
        · have := hdl b h'; omega
        · exact (hgd.okd b hb).2 ⟨0, e0, he0, hn, hbe⟩
  · show upd dz.μ j (some e0) i = _
    rw [upd_ne _ _ (by omega)]
    refine hdp i ?_
    rw [hL i (by omega)] at hal
    exact hal
theorem ex_callv {cl : Call} {f : Operand} (hnp : np ≤ j) (ho : o.op = .call cl) (hcl : cl.callee = .value f) (hg : Good c L) (hρ : ∀ x, Rel c (ρ x) (a.eval x)) (h : vcE P Γ np o ρ L j k) : ∃ e, k e ∧ Ex P o a c L np e := by
  simp only [vcE, ho, hcl, frc_eq, frcL_eq] at h
  have hnd : (match o.op with | .defer _ => true | _ => false) = false := by rw [ho]
  have hf := hρ f
  split at h
  · rename_i g caps hp
    rw [hp] at hf
    obtain ⟨us, ef, h2⟩ := hf.fn_inv
    have hv := (F2.of_ops hρ cl.args.toList).append h2
    obtain ⟨m, h⟩ := h
    cases m with
    | fz l r =>
      simp only [callM, frc_eq] at h
      obtain ⟨hal, hC, h⟩ := h
      exact ⟨_, h, Ex.enter hnd (by rw [run_callf hcl ho ef]; exact hC.1 _ _) (call_fz l hg hal hC hv)⟩
    | bo r =>
      simp only [callM, frc_eq] at h
      obtain ⟨hal, hC, h⟩ := h
      exact ⟨_, h, Ex.enter hnd (by rw [run_callf hcl ho ef]; exact hC.1 _ _) (call_bo _ hg hal hC hv)⟩
    | nw l ty sz xs =>
      simp only [callM] at h
      obtain ⟨⟨hal, hj⟩, hC, h⟩ := h
      exact ⟨_, h, Ex.enter hnd (by rw [run_callf hcl ho ef]; exact hC.1 _ _) (call_nw l hnp hg hal hj hC hv)⟩
    | ef ids r L1 => exact h.elim
  · exact h.elim

/-- What is asked at an operation is enough. -/
theorem vcE_sound (hT : TyOk P Γ) (hnp : np ≤ j) (hg : Good c L) (hρ : ∀ x, Rel c (ρ x) (a.eval x)) (h : vcE P Γ np o ρ L j k) : ∃ e, k e ∧ Ex P o a c L np e := by
  cases ho : o.op with
  | move x => exact ex_move ho hg hρ h
  | assign x => exact ex_assign ho hg hρ h
  | pick x y z => exact ex_pick ho hg hρ h
  | alloc t => exact ex_alloc hT hnp ho hg hρ h
  | box t x => exact ex_box hnp ho hg hρ h
  | load t x => exact ex_load hT ho hg hρ h
  | store t x y => exact ex_store hT ho hg hρ h
  | nilCheck x => exact ex_nilCheck ho hg hρ h
  | binOp op t x y t' => exact ex_binOp hT ho hg hρ h
  | unOp op t x => exact ex_unOp ho hg hρ h
  | convert s d x => exact ex_convert hT ho hg hρ h
  | makeFunc f fs cs => exact ex_makeFunc ho hg hρ h
  | makeMap t r => exact ex_makeMap hT hnp ho hg hρ h
  | makeSlice t x y => exact ex_makeSlice hT hnp ho hg hρ h
  | buildSlice t n ps => exact ex_buildSlice hT hnp ho hg hρ h
  | build t ps => exact ex_build hT ho hg hρ h
  | fieldAddr t x f => exact ex_fieldAddr hT ho hg hρ h
  | indexAddr t x y => exact ex_indexAddr hT ho hg hρ h
  | index t x y => exact ex_index hT ho hg hρ h
  | slice t x lo hi mx => exact ex_slice hT ho hg hρ h
  | lookup t m x ok => exact ex_lookup hT ho hg hρ h
  | mapUpdate t m x y => exact ex_mapUpdate hT ho hg hρ h
  | extract x n => exact ex_extract ho hg hρ h
  | call cl =>
    cases hcl : cl.callee with
    | value f => exact ex_callv hnp ho hcl hg hρ h
    | builtin b =>
      cases b with
      | len => exact ex_len hT ho hcl hg hρ h
      | append => exact ex_append hT hnp ho hcl hg hρ h
      | min => exact ex_min hT ho hcl hg hρ h
      | max => exact ex_max hT ho hcl hg hρ h
      | delete => exact ex_delete hT ho hcl hg hρ h
      | _ => simp only [vcE, ho, hcl] at h
    | _ => simp only [vcE, ho, hcl] at h
  | _ => simp only [vcE, ho] at h
end
end Go.Proofs.Ytcfbhojpemjjpaa
