/- Part 2 of the walk that the law rests on: T, U, X, B, A, AB, C, W, Y, Z. -/
import Derived.Test.YtcmciimogcfakaaM1
import Derived.Scope
import Derived.LoopNIn
import Derived.OrdersIn
import Derived.Deep.Slices
import Derived.SizedLaws
import Derived.ProofKit
import Derived.OpenShut
import Derived.ChangeOld
/- An operation does what the walk says of it: calls; and all of them. -/
set_option linter.unusedVariables false
set_option linter.unusedSimpArgs false
namespace Go.Proofs.Ytcmciimogcfakaa
open Go Go.RowKit

section
variable {P : Program} {Γ : Nat → Option TI} {o : Oper} {a : Act} {c : Cx} {L : Nat → Blk} {np j : Nat} {ρ : Operand → AV} {k : Eff → Prop}

theorem good_nil {d : Cx} (hok : ∀ b, d.ok b → b < d.w.heap.size) (hμ : ∀ i, d.μ i = none) : Good d (lk []) :=
  ⟨fun i hi => (by simp [lk, Blk.alive] at hi), fun i e he => (by rw [hμ] at he; cases he), fun i j e e' he => (by rw [hμ] at he; cases he), fun b hb => ⟨hok b hb, fun ⟨i, e, he, _⟩ => (by rw [hμ] at he; cases he)⟩⟩
theorem mu_nil {d : Cx} (h : Good d (lk [])) (i : Nat) : d.μ i = none := by
  cases he : d.μ i with
  | none => rfl
  | some e => have := h.dom i e he; simp [lk, Blk.alive] at this
theorem rel_nil {d : Cx} (hμ : ∀ i, d.μ i = none) (hy : d.yl = none) {av : AV} {v : Value} (h : Rel d av v) : R0 d.w d.ok av v := by
  induction h with
  | pure h => exact h
  | fn f hl _ ih => exact .fn f hl ih
  | agg hl _ ih => exact .agg hl ih
  | tup hl _ ih => exact .tup hl ih
  | yld l h => rw [hy] at h; cases h
  | ptr h _ => rw [hμ] at h; cases h
  | row _ _ h _ => rw [hμ] at h; cases h
  | rown h _ => rw [hμ] at h; cases h
  | rowf h => rw [hμ] at h; cases h
  | mp h _ => rw [hμ] at h; cases h
  | gst h _ => rw [hμ] at h; cases h
theorem flat_r0 {w w' : World} {ok ok' : Nat → Prop} : ∀ (n : Nat) (av : AV) (v : Value), flat n av = true → R0 w ok av v → R0 w' ok' av v := by
  intro n
  induction n with
  | zero =>
    intro av v hf h
    cases av <;> simp [flat] at hf
    · cases h; exact .int _ _
    · cases h; exact .bool _
  | succ n ih =>
    intro av v hf h
    cases av <;> simp [flat] at hf
    · cases h; exact .int _ _
    · cases h; exact .bool _
    · cases h with
      | agg hl h => exact .agg hl fun i a v ha hv => ih a v (hf a (List.mem_of_getElem? ha)) (h i a v ha hv)
    · cases h with
      | tup hl h => exact .tup hl fun i a v ha hv => ih a v (hf a (List.mem_of_getElem? ha)) (h i a v ha hv)
theorem F2.maps {α β γ : Type} {R : α → β → Prop} {S : γ → β → Prop} {l : List α} {m : List β} (h : F2 R l m) (g : α → γ) (hi : ∀ a b, R a b → S (g a) b) : F2 S (l.map g) m := h.map g fun a b _ => hi a b
theorem run_callf {cl : Call} {f : Operand} {g : FuncId} {us : List Value} (hc : cl.callee = .value f) (ho : o.op = .call cl) (hf : a.eval f = .func (.func g) #[] us.toArray) (w : World) :
    (execOp a.eval o).run P w = (callFunc g ((cl.args.toList.map a.eval) ++ us).toArray).run P w := by
  have : cl.args.map a.eval = (cl.args.toList.map a.eval).toArray := by rw [← Array.toList_map, Array.toArray_toList]
  simp [execOp, ho, resolve, hc, hf, Deferred.ofValue, invoke, this]

/-- A call that freezes what it is handed. -/
theorem call_fz {g : FuncId} {args : List AV} {r : AV} (l : List Nat) (hg : Good c L) (hal : l.all (fun i => (L i).alive) = true) (hC : C P g (args.map (pur L (memB l) 8)) r) {vs : List Value} (hv : F2 (Rel c) args vs) :
    CallsIn Fence.wide 0 P g vs.toArray c.w fun x w' => ∃ v d, d.w = w' ∧ x = .returned v ∧ Stp c L np { v := r, fz := l, rd := l } v d := by
  have hlt : ∀ b, okF c (memB l) b → b < c.w.heap.size := fun b hb => hb.elim (fun h => (hg.okd b h).1) fun ⟨i, e, _, he, hn, hbe⟩ => hg.lt ⟨i, e, he, hn, hbe⟩
  have g0 : Good ⟨c.w, okF c (memB l), fun _ => none, none⟩ (lk []) := good_nil hlt fun _ => rfl
  have hv' : F2 (Rel ⟨c.w, okF c (memB l), fun _ => none, none⟩) (args.map (pur L (memB l) 8)) vs := hv.maps _ fun a v h => .pure (pur_sound hg (memB l) 8 a v h)
  refine (hC.2 ⟨c.w, okF c (memB l), fun _ => none, none⟩ vs g0 hv').mono ?_
  rintro x w' ⟨v, d', hw, rfl, hfr, hgd, hr, _⟩
  obtain ⟨dz, hdw, hdok, hdf, hdg, hdr, hdp⟩ := fz_step hg l
  have hμ := mu_nil hgd
  have hr0 := rel_nil hμ hfr.yl hr
  have hno : ∀ b, ¬ (⟨c.w, okF c (memB l), fun _ => none, none⟩ : Cx).own b := fun b ⟨i, e, he, _⟩ => by cases he
  have hsame : ∀ b, b < c.w.heap.size → w'.heap[b]? = c.w.heap[b]? := fun b hb => by rw [← hw]; exact hfr.same b hb (hno b)
  have hsz : c.w.heap.size ≤ w'.heap.size := by rw [← hw]; exact hfr.size
  have hdl : ∀ b, dz.own b → b < c.w.heap.size := fun b hb => by rw [← hdw]; exact hdg.lt hb
  have hok' : ∀ b, d'.ok b → dz.ok b ∨ c.w.heap.size ≤ b := fun b hb => by
    rcases hfr.ok b hb with h | h | h
    · exact .inl (hdok b h)
    · exact absurd h (hno b)
    · exact .inr h
  have hz0 : ∀ a v, R0 dz.w dz.ok a v → R0 w' (fun b => dz.ok b ∨ d'.ok b) a v := fun a v h => h.mono (fun b hb => .inl hb) fun b hb => by
    rw [hsame b (by rw [← hdw]; exact (hdg.okd b hb).1), hdw]
  have hzr : ∀ a v, Rel dz a v → Rel ⟨w', fun b => dz.ok b ∨ d'.ok b, dz.μ, dz.yl⟩ a v := fun a v h => Rel.mono (d := ⟨w', fun b => dz.ok b ∨ d'.ok b, dz.μ, dz.yl⟩) hz0 rfl (fun _ _ h => h) h
  have hfrz : Fr dz ⟨w', fun b => dz.ok b ∨ d'.ok b, dz.μ, dz.yl⟩ :=
    ⟨by rw [hdw, ← hw]; exact hfr.os, by rw [hdw, ← hw]; exact hfr.tape, by rw [hdw, ← hw]; exact hfr.output, by rw [hdw]; exact hsz, fun b hb _ => by rw [hdw] at hb ⊢; exact hsame b hb, fun b hb => .inl hb,
      fun b hb => by
        rcases hb with hb | hb
        · exact .inl hb
        · rcases hok' b hb with h | h
          · exact .inl h
          · exact .inr (.inr (by rw [hdw]; exact h)), fun b hb => .inl hb, rfl, by rw [hdw, ← hw]; exact hfr.drn⟩
  refine ⟨v, ⟨w', fun b => dz.ok b ∨ d'.ok b, dz.μ, dz.yl⟩, rfl, rfl, hdf.trans hfrz, ⟨fun i hi => ?_, hdg.dom, hdg.inj, fun b hb => ?_⟩, fun a u h => hzr _ _ (hdr a u h), .pure ?_, fun i _ hi => hdp i hi⟩
  · obtain ⟨e, he, hb⟩ := hdg.blk i hi
    exact ⟨e, he, hb.keep hzr hz0 fun hn => by rw [hdw]; exact hsame _ (hdl _ ⟨i, e, he, hn, rfl⟩)⟩
  · have key : ∀ b, dz.ok b → b < w'.heap.size ∧ ¬ dz.own b := fun b hb => ⟨by have := (hdg.okd b hb).1; rw [hdw] at this; omega, (hdg.okd b hb).2⟩
    rcases hb with hb | hb
    · exact key b hb
    · rcases hok' b hb with h | h
      · exact key b h
      · exact ⟨by rw [← hw]; exact (hgd.okd b hb).1, fun ho => by have := hdl b ho; omega⟩
  · have := hr0.mono (w' := w') (ok' := fun b => dz.ok b ∨ d'.ok b) (fun b hb => .inr hb) fun b hb => by rw [hw]
    exact this
/-- A call that looks, and hands back plain numbers. -/
theorem call_bo {g : FuncId} {args : List AV} {r : AV} (rd : List Nat) (hg : Good c L) (hfl : flat 8 r = true) (hC : C P g (args.map (pur L (fun _ => true) 8)) r) {vs : List Value} (hv : F2 (Rel c) args vs) :
    CallsIn Fence.wide 0 P g vs.toArray c.w fun x w' => ∃ v d, d.w = w' ∧ x = .returned v ∧ Stp c L np { v := r, rd := rd } v d := by
  have hlt : ∀ b, okF c (fun _ => true) b → b < c.w.heap.size := fun b hb => hb.elim (fun h => (hg.okd b h).1) fun ⟨i, e, _, he, hn, hbe⟩ => hg.lt ⟨i, e, he, hn, hbe⟩
  have g0 : Good ⟨c.w, okF c (fun _ => true), fun _ => none, none⟩ (lk []) := good_nil hlt fun _ => rfl
  have hv' : F2 (Rel ⟨c.w, okF c (fun _ => true), fun _ => none, none⟩) (args.map (pur L (fun _ => true) 8)) vs := hv.maps _ fun a v h => .pure (pur_sound hg (fun _ => true) 8 a v h)
  refine (hC.2 ⟨c.w, okF c (fun _ => true), fun _ => none, none⟩ vs g0 hv').mono ?_
  rintro x w' ⟨v, d', hw, rfl, hfr, hgd, hr, _⟩
  have hr0 := rel_nil (mu_nil hgd) hfr.yl hr
  have hno : ∀ b, ¬ (⟨c.w, okF c (fun _ => true), fun _ => none, none⟩ : Cx).own b := fun b ⟨i, e, he, _⟩ => by cases he
  have hsame : ∀ b, b < c.w.heap.size → w'.heap[b]? = c.w.heap[b]? := fun b hb => by rw [← hw]; exact hfr.same b hb (hno b)
  have hsz : c.w.heap.size ≤ w'.heap.size := by rw [← hw]; exact hfr.size
  have hz0 : ∀ a v, R0 c.w c.ok a v → R0 w' c.ok a v := fun a v h => h.mono (fun b hb => hb) fun b hb => hsame b (hg.okd b hb).1
  have hzr : ∀ a v, Rel c a v → Rel ⟨w', c.ok, c.μ, c.yl⟩ a v := fun a v h => Rel.mono (d := ⟨w', c.ok, c.μ, c.yl⟩) hz0 rfl (fun _ _ h => h) h
  refine ⟨v, ⟨w', c.ok, c.μ, c.yl⟩, rfl, rfl, ⟨by rw [← hw]; exact hfr.os, by rw [← hw]; exact hfr.tape, by rw [← hw]; exact hfr.output, hsz, fun b hb _ => hsame b hb, fun b hb => .inl hb, fun b hb => .inl hb, fun b hb => hb, rfl, by rw [← hw]; exact hfr.drn⟩,
    ⟨fun i hi => ?_, hg.dom, hg.inj, fun b hb => ⟨Nat.lt_of_lt_of_le (hg.okd b hb).1 hsz, (hg.okd b hb).2⟩⟩, hzr, .pure (flat_r0 8 r v hfl hr0), fun _ _ _ => rfl⟩
  obtain ⟨e, he, hb⟩ := hg.blk i hi
  exact ⟨e, he, hb.keep hzr hz0 fun hn => hsame _ (hg.lt ⟨i, e, he, hn, rfl⟩)⟩
/-- A call that freezes what it is handed, and hands back a row. -/
theorem call_nw {g : FuncId} {args : List AV} {ty sz : Nat} {xs : List (List AV)} (l : List Nat) (hnp : np ≤ j) (hg : Good c L) (hal : l.all (fun i => (L i).alive) = true) (hj : (L j).alive = false) (hC : CR P g (args.map (pur L (memB l) 8)) ty sz xs) {vs : List Value} (hv : F2 (Rel c) args vs) :
    CallsIn Fence.wide 0 P g vs.toArray c.w fun x w' => ∃ v d, d.w = w' ∧ x = .returned v ∧ Stp c L np { v := .rowf j, wr := [(j, .rows ty sz xs)], fz := l, rd := j :: l, al := 1 } v d := by
  have hlt : ∀ b, okF c (memB l) b → b < c.w.heap.size := fun b hb => hb.elim (fun h => (hg.okd b h).1) fun ⟨i, e, _, he, hn, hbe⟩ => hg.lt ⟨i, e, he, hn, hbe⟩
  have g0 : Good ⟨c.w, okF c (memB l), fun _ => none, none⟩ (lk []) := good_nil hlt fun _ => rfl
  have hv' : F2 (Rel ⟨c.w, okF c (memB l), fun _ => none, none⟩) (args.map (pur L (memB l) 8)) vs := hv.maps _ fun a v h => .pure (pur_sound hg (memB l) 8 a v h)
  refine (hC.2 ⟨c.w, okF c (memB l), fun _ => none, none⟩ vs g0 hv').mono ?_
  rintro x w' ⟨v, d', hw, rfl, hfr, hgd, hr, _⟩
  obtain ⟨dz, hdw, hdok, hdf, hdg, hdr, hdp⟩ := fz_step hg l
  obtain ⟨e0, he0, rfl⟩ := hr.rowf_inv
  have hB0 : BlkRel d' (.rows ty sz xs) e0 := by
    obtain ⟨e1, he1, hB⟩ := hgd.blk 0 rfl
    rw [he0] at he1; cases he1
    exact hB
  have hno : ∀ b, ¬ (⟨c.w, okF c (memB l), fun _ => none, none⟩ : Cx).own b := fun b ⟨i, e, he, _⟩ => by cases he
  have hsame : ∀ b, b < c.w.heap.size → w'.heap[b]? = c.w.heap[b]? := fun b hb => by rw [← hw]; exact hfr.same b hb (hno b)
  have hsz : c.w.heap.size ≤ w'.heap.size := by rw [← hw]; exact hfr.size
  have hdl : ∀ b, dz.own b → b < c.w.heap.size := fun b hb => by rw [← hdw]; exact hdg.lt hb
  have hnew : e0.nil = false → c.w.heap.size ≤ e0.b := fun hn => (hfr.own e0.b ⟨0, e0, he0, hn, rfl⟩).resolve_left (hno _)
  have hok' : ∀ b, d'.ok b → dz.ok b ∨ c.w.heap.size ≤ b := fun b hb => by
    rcases hfr.ok b hb with h | h | h
    · exact .inl (hdok b h)
    · exact absurd h (hno b)
    · exact .inr h
  have hjL : (fzL l L j).alive = false := by
    cases l with
    | nil => exact hj
    | cons i l =>
      simp only [fzL]
      cases memB (i :: l) j with
      | true => rfl
      | false => simp only [cond_false]; rw [alive_map']; exact hj
  have hjz : dz.μ j = none := by
    cases h : dz.μ j with
    | none => rfl
    | some x => have := hdg.dom j x h; rw [hjL] at this; cases this
  let d : Cx := ⟨w', fun b => dz.ok b ∨ d'.ok b, upd dz.μ j (some e0), dz.yl⟩
  have hμ : ∀ i e, dz.μ i = some e → d.μ i = some e := fun i e hi => by
    show upd dz.μ j (some e0) i = some e
    rw [upd_ne _ _ (fun hij => by subst hij; rw [hjz] at hi; cases hi)]
    exact hi
  have hcase : ∀ i e, d.μ i = some e → (i = j ∧ e = e0) ∨ (i ≠ j ∧ dz.μ i = some e) := fun i e hi => by
    change upd dz.μ j (some e0) i = some e at hi
    by_cases hij : i = j
    · subst hij; rw [upd_same] at hi; cases hi; exact .inl ⟨rfl, rfl⟩
    · rw [upd_ne _ _ hij] at hi; exact .inr ⟨hij, hi⟩
  have hz0 : ∀ a v, R0 dz.w dz.ok a v → R0 d.w d.ok a v := fun a v h => h.mono (fun b hb => .inl hb) fun b hb => by
    show w'.heap[b]? = _
    rw [hsame b (by rw [← hdw]; exact (hdg.okd b hb).1), hdw]
  have hzr : ∀ a v, Rel dz a v → Rel d a v := fun a v h => Rel.mono (d := d) hz0 rfl hμ h
  have hown : ∀ b, d.own b → dz.own b ∨ (c.w.heap.size ≤ b ∧ e0.nil = false ∧ e0.b = b) := fun b ⟨i, e, hi, hn, hb⟩ => by
    rcases hcase i e hi with ⟨rfl, rfl⟩ | ⟨_, hi⟩
    · exact .inr ⟨by rw [← hb]; exact hnew hn, hn, hb⟩
    · exact .inl ⟨i, e, hi, hn, hb⟩
  have hfrz : Fr dz d :=
    ⟨by rw [hdw, show d.w = d'.w from hw.symm]; exact hfr.os, by rw [hdw, show d.w = d'.w from hw.symm]; exact hfr.tape, by rw [hdw, show d.w = d'.w from hw.symm]; exact hfr.output, by rw [hdw]; exact hsz, fun b hb _ => by rw [hdw] at hb ⊢; exact hsame b hb,
      fun b hb => (hown b hb).imp (fun h => h) fun h => by rw [hdw]; exact h.1,
      fun b hb => by
        rcases hb with hb | hb
        · exact .inl hb
        · rcases hok' b hb with h | h
          · exact .inl h
          · exact .inr (.inr (by rw [hdw]; exact h)), fun b hb => .inl hb, rfl, by rw [hdw, show d.w = d'.w from hw.symm]; exact hfr.drn⟩
  have hB : BlkRel d (.rows ty sz xs) e0 := by
    cases hB0 with
    | rows vs h1 h2 hs hn hz h0 h3 =>
      refine .rows vs (by show w'.ownsRow _ _ _ _ _ _; rw [← hw]; exact h1) (h2.imp fun a u _ h => ?_) hs hn hz h0 h3
      exact h.mono (w' := d.w) (ok' := d.ok) (fun b hb => .inr hb) fun b hb => by show w'.heap[b]? = _; rw [hw]
  have hL : ∀ i, i ≠ j → apL L { v := .rowf j, wr := [(j, .rows ty sz xs)], fz := l, rd := j :: l, al := 1 } i = fzL l L i := fun i hi => upd_ne _ _ hi
  have hLj : apL L { v := .rowf j, wr := [(j, .rows ty sz xs)], fz := l, rd := j :: l, al := 1 } j = .rows ty sz xs := upd_same _ _ _
  refine ⟨_, d, rfl, rfl, hdf.trans hfrz, ⟨fun i hi => ?_, fun i e he => ?_, fun i k e e' he he' hn hn' hbb => ?_, fun b hb => ?_⟩, fun a u h => hzr _ _ (hdr a u h), .rowf (e := e0) (upd_same _ _ _), fun i hi hal => ?_⟩
  · by_cases hij : i = j
    · subst hij
      rw [hLj]
      exact ⟨e0, upd_same _ _ _, hB⟩
    · rw [hL i hij] at hi ⊢
      obtain ⟨e, he, hb⟩ := hdg.blk i hi
      exact ⟨e, hμ _ _ he, hb.keep hzr hz0 fun hn => by show w'.heap[e.b]? = _; rw [hdw]; exact hsame _ (hdl _ ⟨i, e, he, hn, rfl⟩)⟩
  · rcases hcase i e he with ⟨rfl, rfl⟩ | ⟨hij, he⟩
    · rw [hLj]; rfl
    · rw [hL i hij]; exact hdg.dom i e he
  · rcases hcase i e he with ⟨h1, h2⟩ | ⟨hij, hez⟩ <;> rcases hcase k e' he' with ⟨h3, h4⟩ | ⟨hkj, hez'⟩
    · rw [h1, h3]
    · have h5 := hdl _ ⟨k, e', hez', hn', rfl⟩
      have h6 := hnew (by rw [← h2]; exact hn)
      rw [h2] at hbb
      omega
    · have h5 := hdl _ ⟨i, e, hez, hn, rfl⟩
      have h6 := hnew (by rw [← h4]; exact hn')
      rw [h4] at hbb
      omega
    · exact hdg.inj i k e e' hez hez' hn hn' hbb
  · have key : ∀ b, dz.ok b → b < w'.heap.size ∧ ¬ d.own b := fun b hb => by
      have h1 := (hdg.okd b hb).1
      rw [hdw] at h1
      refine ⟨by omega, fun ho => ?_⟩
      rcases hown b ho with h | h
      · exact (hdg.okd b hb).2 h
      · omega
    rcases hb with hb | hb
    · exact key b hb
    · rcases hok' b hb with h | h
      · exact key b h
      · refine ⟨by show b < w'.heap.size; rw [← hw]; exact (hgd.okd b hb).1, fun ho => ?_⟩
        rcases hown b ho with h' | ⟨_, hn, hbe⟩
        · have := hdl b h'; omega
        · exact (hgd.okd b hb).2 ⟨0, e0, he0, hn, hbe⟩
  · show upd dz.μ j (some e0) i = _
    rw [upd_ne _ _ (by omega)]
    refine hdp i ?_
    rw [hL i (by omega)] at hal
    exact hal
theorem nodup_get : ∀ {l : List Nat}, nodupB l = true → ∀ {p q i : Nat}, l[p]? = some i → l[q]? = some i → p = q
  | [], _, p, q, i, hp, _ => by simp at hp
  | a :: l, h, p, q, i, hp, hq => by
    simp only [nodupB, Bool.and_eq_true, Bool.not_eq_true'] at h
    have hm : ∀ {r : Nat}, l[r]? = some a → False := fun hr => by
      have : memB l a = true := by
        unfold memB
        rw [List.any_eq_true]
        exact ⟨a, List.mem_of_getElem? hr, by simp⟩
      rw [this] at h
      cases h.1
    cases p with
    | zero =>
      simp at hp; subst hp
      cases q with
      | zero => rfl
      | succ q => simp at hq; exact (hm hq).elim
    | succ p =>
      simp at hp
      cases q with
      | zero => simp at hq; subst hq; exact (hm hp).elim
      | succ q => simp at hq; rw [nodup_get h.2 hp hq]
theorem idx_some {ids : List Nat} {i p : Nat} (h : idx ids i = some p) : ids[p]? = some i := by
  unfold idx at h
  rw [List.findIdx?_eq_some_iff_getElem] at h
  obtain ⟨hp, h1, _⟩ := h
  rw [List.getElem?_eq_getElem hp]
  exact congrArg some (Nat.eq_of_beq_eq_true h1).symm
theorem back_at (ids : List Nat) (j : Nat) (hnd : nodupB ids = true) (L : Nat → Blk) : ∀ (L1 : List Blk) (p0 : Nat), p0 + L1.length ≤ ids.length → ∀ (q i : Nat) (B : Blk), ids[p0 + q]? = some i → L1[q]? = some B → wrL L (backs ids j p0 L1) i = B.map' (trav (gBack ids j) 8)
  | [], p0, hl, q, i, B, hi, hB => by simp at hB
  | B0 :: l, p0, hl, q, i, B, hi, hB => by
    have hb0 : ∃ i0, ids[p0]? = some i0 := ⟨_, List.getElem?_eq_getElem (by simp at hl; omega)⟩
    obtain ⟨i0, hi0⟩ := hb0
    have e0 : back1 ids j p0 = i0 := by simp [back1, hi0]
    simp only [backs, wrL, e0]
    cases q with
    | zero =>
      simp at hB; subst hB
      rw [Nat.add_zero, hi0] at hi; cases hi
      exact upd_same _ _ _
    | succ q =>
      have hne : i ≠ i0 := fun he => by
        subst he
        have := nodup_get hnd hi hi0
        omega
      rw [upd_ne _ _ hne]
      exact back_at ids j hnd L l (p0 + 1) (by simp at hl; omega) q i B (by rw [← hi]; congr 1; omega) (by simpa using hB)
theorem back_no (ids : List Nat) (j : Nat) (L : Nat → Blk) {i : Nat} : ∀ (L1 : List Blk) (p0 : Nat), p0 + L1.length ≤ ids.length → (∀ p : Nat, ids[p]? ≠ some i) → wrL L (backs ids j p0 L1) i = L i
  | [], p0, hl, h => rfl
  | B0 :: l, p0, hl, h => by
    obtain ⟨i0, hi0⟩ : ∃ i0, ids[p0]? = some i0 := ⟨_, List.getElem?_eq_getElem (by simp at hl; omega)⟩
    have e0 : back1 ids j p0 = i0 := by simp [back1, hi0]
    simp only [backs, wrL, e0]
    rw [upd_ne _ _ (fun he => h p0 (by rw [hi0, he]))]
    exact back_no ids j L l (p0 + 1) (by simp at hl; omega) h
/-- A call that is handed some blocks, and hands them back. -/
theorem call_ef {g : FuncId} {args : List AV} {r : AV} {ids : List Nat} {L1 : List Blk} (hg : Good c L) (hnd : nodupB ids = true) (hal : ids.all (fun i => (L i).alive) = true) (h1 : L1.all Blk.alive = true) (hl : Nat.beq L1.length ids.length = true)
    (hC : CE P g (args.map (trav (gRen ids) 8)) (ids.map fun i => (L i).map' (trav (gRen ids) 8)) r L1) {vs : List Value} (hv : F2 (Rel c) args vs) :
    CallsIn Fence.wide 0 P g vs.toArray c.w fun x w' => ∃ v d, d.w = w' ∧ x = .returned v ∧ Stp c L np { v := trav (gBack ids 0) 8 r, wr := backs ids 0 0 L1, rd := ids } v d := by
  have hl := Nat.eq_of_beq_eq_true hl
  let c' : Cx := ⟨c.w, c.ok, fun p => match ids[p]? with | some i => c.μ i | none => none, c.yl⟩
  have hμ' : ∀ {p i : Nat}, ids[p]? = some i → c'.μ p = c.μ i := fun {p i} h => by show (match ids[p]? with | some i => c.μ i | none => none) = _; rw [h]
  have hμn : ∀ {p : Nat} {e : Ent}, c'.μ p = some e → ∃ i, ids[p]? = some i ∧ c.μ i = some e := fun {p e} h => by
    change (match ids[p]? with | some i => c.μ i | none => none) = some e at h
    cases hp : ids[p]? with
    | none => rw [hp] at h; cases h
    | some i => rw [hp] at h; exact ⟨i, rfl, h⟩
  have hown : ∀ b, c'.own b → ∃ p i e, ids[p]? = some i ∧ c.μ i = some e ∧ e.nil = false ∧ e.b = b := fun b ⟨p, e, he, hn, hb⟩ => by
    obtain ⟨i, hp, hi⟩ := hμn he
    exact ⟨p, i, e, hp, hi, hn, hb⟩
  have hown' : ∀ b, c'.own b → c.own b := fun b h => by obtain ⟨p, i, e, _, hi, hn, hb⟩ := hown b h; exact ⟨i, e, hi, hn, hb⟩
  have hren : ∀ a v, Rel c a v → Rel c' (trav (gRen ids) 8 a) v := fun a v h => Rel.trav (c := c) (d := c') (fun _ _ h => h) rfl (fun a v hr h => by
    cases h with
    | pure h => cases h <;> simp [AV.isRef] at hr
    | fn => simp [AV.isRef] at hr
    | agg => simp [AV.isRef] at hr
    | tup => simp [AV.isRef] at hr
    | yld => simp [AV.isRef] at hr
    | ptr h hn =>
      simp only [gRen]
      split
      · rename_i p hp; exact .ptr (by rw [hμ' (idx_some hp)]; exact h) hn
      · exact .pure (.any _)
    | row cc oo h hn ho hc hl' =>
      simp only [gRen]
      split
      · rename_i p hp; exact .row cc oo (by rw [hμ' (idx_some hp)]; exact h) hn ho hc hl'
      · exact .pure (.any _)
    | rown h hn =>
      simp only [gRen]
      split
      · rename_i p hp; exact .rown (by rw [hμ' (idx_some hp)]; exact h) hn
      · exact .pure (.any _)
    | rowf h =>
      simp only [gRen]
      split
      · rename_i p hp; exact .rowf (by rw [hμ' (idx_some hp)]; exact h)
      · exact .pure (.any _)
    | mp h hn =>
      simp only [gRen]
      split
      · rename_i p hp; exact .mp (by rw [hμ' (idx_some hp)]; exact h) hn
      · exact .pure (.any _)
    | gst h v => exact .pure (.any _)) h 8
  have hlk : ∀ (p : Nat), lk (ids.map fun i => (L i).map' (trav (gRen ids) 8)) p = match ids[p]? with | some i => (L i).map' (trav (gRen ids) 8) | none => .dead := fun p => by
    unfold lk
    rw [List.getElem?_map]
    cases ids[p]? <;> rfl
  have hali : ∀ {p i : Nat}, ids[p]? = some i → (L i).alive = true := fun {p i} h => List.all_eq_true.1 hal i (List.mem_of_getElem? h)
  have g0 : Good c' (lk (ids.map fun i => (L i).map' (trav (gRen ids) 8))) := by
    refine ⟨fun p hp => ?_, fun p e he => ?_, fun p q e e' he he' hn hn' hb => ?_, fun b hb => ⟨(hg.okd b hb).1, fun ho => (hg.okd b hb).2 (hown' b ho)⟩⟩
    · rw [hlk] at hp ⊢
      cases hi : ids[p]? with
      | none => rw [hi] at hp; cases hp
      | some i =>
        rw [hi] at hp
        simp only [alive_map'] at hp ⊢
        obtain ⟨e, he, hr⟩ := hg.blk i hp
        exact ⟨e, by rw [hμ' hi]; exact he, hr.turn _ hren (fun _ _ h => h) fun _ => rfl⟩
    · obtain ⟨i, hi, _⟩ := hμn he
      rw [hlk, hi]
      simp only [alive_map']
      exact hali hi
    · obtain ⟨i, hi, hie⟩ := hμn he
      obtain ⟨j, hj, hje⟩ := hμn he'
      have := hg.inj i j e e' hie hje hn hn' hb
      subst this
      exact nodup_get hnd hi hj
  refine (hC.2 c' vs g0 (hv.maps _ hren)).mono ?_
  rintro x w' ⟨v, d', hw, rfl, hfr, hgd, hr, hpin⟩
  have hpin' : ∀ {p i : Nat}, ids[p]? = some i → d'.μ p = c.μ i := fun {p i} h => by
    have hp := (List.getElem?_eq_some_iff.1 h).1
    rw [← hμ' h]
    refine hpin p (by simpa using hp) ?_
    unfold lk
    rw [List.getElem?_eq_getElem (by omega)]
    exact List.all_eq_true.1 h1 _ (List.getElem_mem _)
  have hdn : ∀ {p : Nat} {e : Ent}, d'.μ p = some e → ∃ i, ids[p]? = some i ∧ c.μ i = some e := fun {p e} h => by
    have hal := hgd.dom p e h
    have hp : p < L1.length := by
      rcases Nat.lt_or_ge p L1.length with h | h
      · exact h
      · unfold lk at hal
        rw [List.getElem?_eq_none h] at hal
        cases hal
    have hi : ids[p]? = some ids[p] := List.getElem?_eq_getElem (by omega)
    exact ⟨_, hi, by rw [← hpin' hi]; exact h⟩
  let d : Cx := ⟨d'.w, d'.ok, c.μ, c.yl⟩
  have hdo : ∀ b, d.own b ↔ c.own b := fun b => Iff.rfl
  have hd'o : ∀ b, d'.own b → c.own b := fun b ⟨p, e, he, hn, hb⟩ => by obtain ⟨i, _, hi⟩ := hdn he; exact ⟨i, e, hi, hn, hb⟩
  have hsame : ∀ b, b < c.w.heap.size → ¬ c'.own b → d'.w.heap[b]? = c.w.heap[b]? := fun b hb h => hfr.same b hb h
  have hr0 : ∀ a v, R0 c.w c.ok a v → R0 d.w d.ok a v := fun a v h => h.mono (fun b hb => hfr.mono b hb) fun b hb => hsame b (hg.okd b hb).1 fun ho => (hg.okd b hb).2 (hown' b ho)
  have hrel : ∀ a v, Rel c a v → Rel d a v := fun a v h => Rel.mono (d := d) hr0 rfl (fun _ _ h => h) h
  have hyl : d.yl = d'.yl := hfr.yl.symm
  have hback : ∀ a v, Rel d' a v → Rel d (trav (gBack ids 0) 8 a) v := fun a v h => Rel.trav (c := d') (d := d) (fun _ _ h => h) hyl (fun a v hr h => by
    have hb1 : ∀ {p i : Nat}, ids[p]? = some i → back1 ids 0 p = i := fun h => by simp [back1, h]
    cases h with
    | pure h => cases h <;> simp [AV.isRef] at hr
    | fn => simp [AV.isRef] at hr
    | agg => simp [AV.isRef] at hr
    | tup => simp [AV.isRef] at hr
    | yld => simp [AV.isRef] at hr
    | ptr h hn =>
      obtain ⟨i, hi, he⟩ := hdn h
      simp only [gBack, hb1 hi]
      exact .ptr (c := d) he hn
    | row cc oo h hn ho hc hl' =>
      obtain ⟨i, hi, he⟩ := hdn h
      simp only [gBack, hb1 hi]
      exact .row (c := d) cc oo he hn ho hc hl'
    | rown h hn =>
      obtain ⟨i, hi, he⟩ := hdn h
      simp only [gBack, hb1 hi]
      exact .rown (c := d) he hn
    | rowf h =>
      obtain ⟨i, hi, he⟩ := hdn h
      simp only [gBack, hb1 hi]
      exact .rowf (c := d) he
    | mp h hn =>
      obtain ⟨i, hi, he⟩ := hdn h
      simp only [gBack, hb1 hi]
      exact .mp (c := d) he hn
    | gst h v => exact .pure (.any _)) h 8
  have hwr : ∀ i : Nat, (∃ (p : Nat) (B : Blk), ids[p]? = some i ∧ L1[p]? = some B ∧ wrL L (backs ids 0 0 L1) i = B.map' (trav (gBack ids 0) 8)) ∨ ((∀ p : Nat, ids[p]? ≠ some i) ∧ wrL L (backs ids 0 0 L1) i = L i) := fun i => by
    by_cases h : ∃ p : Nat, ids[p]? = some i
    · obtain ⟨p, hp⟩ := h
      have hpl := (List.getElem?_eq_some_iff.1 hp).1
      have hB : L1[p]? = some L1[p] := List.getElem?_eq_getElem (by omega)
      exact .inl ⟨p, _, hp, hB, back_at ids 0 hnd L L1 0 (by omega) p i _ (by simpa using hp) hB⟩
    · have h : ∀ p : Nat, ids[p]? ≠ some i := fun p hp => h ⟨p, hp⟩
      exact .inr ⟨h, back_no ids 0 L L1 0 (by omega) h⟩
  refine ⟨v, d, hw, rfl, ⟨hfr.os, hfr.tape, hfr.output, hfr.size, fun b hb hn => hsame b hb fun ho => hn (hown' b ho), fun b hb => .inl hb, fun b hb => ?_, hfr.mono, rfl, hfr.drn⟩, ⟨fun i hi => ?_, fun i e he => ?_, hg.inj, fun b hb => ?_⟩, hrel, hback _ _ hr, fun _ _ _ => rfl⟩
  · rcases hfr.ok b hb with h | h | h
    · exact .inl h
    · exact .inr (.inl (hown' b h))
    · exact .inr (.inr h)
  · change (wrL L (backs ids 0 0 L1) i).alive = true at hi
    show ∃ e, d.μ i = some e ∧ BlkRel d (wrL L (backs ids 0 0 L1) i) e
    rcases hwr i with ⟨p, B, hp, hB, hE⟩ | ⟨hno, hE⟩
    · rw [hE]
      obtain ⟨e, he, hb⟩ := hgd.blk p (by unfold lk; rw [hB]; exact List.all_eq_true.1 h1 B (List.mem_of_getElem? hB))
      have : lk L1 p = B := by unfold lk; rw [hB]
      rw [this] at hb
      exact ⟨e, by rw [← hpin' hp]; exact he, hb.turn _ hback (fun _ _ h => h) fun _ => rfl⟩
    · rw [hE] at hi ⊢
      obtain ⟨e, he, hb⟩ := hg.blk i hi
      refine ⟨e, he, hb.keep hrel hr0 fun hn => hsame _ (hg.lt ⟨i, e, he, hn, rfl⟩) fun ho => ?_⟩
      obtain ⟨p, i', e', hp, hi', hn', hb'⟩ := hown _ ho
      have := hg.inj i' i e' e hi' he hn' hn hb'
      subst this
      exact hno p hp
  · show (wrL L (backs ids 0 0 L1) i).alive = true
    rcases hwr i with ⟨p, B, hp, hB, hE⟩ | ⟨hno, hE⟩
    · rw [hE, alive_map']
      exact List.all_eq_true.1 h1 B (List.mem_of_getElem? hB)
    · rw [hE]
      exact hg.dom i e he
  · refine ⟨(hgd.okd b hb).1, fun ho => ?_⟩
    rcases hfr.ok b hb with h | h | h
    · exact (hg.okd b h).2 ho
    · obtain ⟨p, i, e, hp, hi, hn, hbe⟩ := hown b h
      exact (hgd.okd b hb).2 ⟨p, e, by rw [hpin' hp]; exact hi, hn, hbe⟩
    · have := hg.lt ho
      change c.w.heap.size ≤ b at h
      omega
theorem ex_callv {cl : Call} {f : Operand} (hnp : np ≤ j) (ho : o.op = .call cl) (hcl : cl.callee = .value f) (hg : Good c L) (hρ : ∀ x, Rel c (ρ x) (a.eval x)) (h : vcE P Γ np o ρ L j k) : ∃ e, k e ∧ Ex P o a c L np e := by
  simp only [vcE, ho, hcl, frc_eq, frcL_eq] at h
  have hnd' : (match o.op with | .defer _ => true | _ => false) = false := by rw [ho]
  have hf := hρ f
  split at h
  · rename_i g caps hp
    rw [hp] at hf
    obtain ⟨us, ef, h2⟩ := hf.fn_inv
    have hv := (F2.of_ops hρ cl.args.toList).append h2
    obtain ⟨m, h⟩ := h
    cases m with
    | fz l r =>
      simp only [callM, frc_eq] at h
      obtain ⟨hal, hC, h⟩ := h
      exact ⟨_, h, Ex.enter hnd' (by rw [run_callf hcl ho ef]; exact hC.1 _ _) (call_fz l hg hal hC hv)⟩
    | bo r =>
      simp only [callM, frc_eq] at h
      obtain ⟨hal, hC, h⟩ := h
      exact ⟨_, h, Ex.enter hnd' (by rw [run_callf hcl ho ef]; exact hC.1 _ _) (call_bo _ hg hal hC hv)⟩
    | nw l ty sz xs =>
      simp only [callM] at h
      obtain ⟨⟨hal, hj⟩, hC, h⟩ := h
      exact ⟨_, h, Ex.enter hnd' (by rw [run_callf hcl ho ef]; exact hC.1 _ _) (call_nw l hnp hg hal hj hC hv)⟩
    | ef ids r L1 =>
      simp only [callM, frc_eq] at h
      obtain ⟨⟨hnd, hal, h1, hl⟩, hC, h⟩ := h
      exact ⟨_, h, Ex.enter hnd' (by rw [run_callf hcl ho ef]; exact hC.1 _ _) (call_ef hg hnd hal h1 hl hC hv)⟩
  · exact h.elim

/-- What is asked at an operation is enough. -/
theorem vcE_sound (hT : TyOk P Γ) (hnp : np ≤ j) (hg : Good c L) (hρ : ∀ x, Rel c (ρ x) (a.eval x)) (h : vcE P Γ np o ρ L j k) : ∃ e, k e ∧ Ex P o a c L np e := by
  cases ho : o.op with
  | move x => exact ex_move ho hg hρ h
  | assign x => exact ex_assign ho hg hρ h
  | pick x y z => exact ex_pick ho hg hρ h
  | alloc t => exact ex_alloc hT hnp ho hg hρ h
  | box t x => exact ex_box hnp ho hg hρ h
  | load t x => exact ex_load hT ho hg hρ h
  | store t x y => exact ex_store hT ho hg hρ h
  | nilCheck x => exact ex_nilCheck ho hg hρ h
  | binOp op t x y t' => exact ex_binOp hT ho hg hρ h
  | unOp op t x => exact ex_unOp ho hg hρ h
  | convert s d x => exact ex_convert hT ho hg hρ h
  | makeFunc f fs cs => exact ex_makeFunc ho hg hρ h
  | makeMap t r => exact ex_makeMap hT hnp ho hg hρ h
  | makeSlice t x y => exact ex_makeSlice hT hnp ho hg hρ h
  | buildSlice t n ps => exact ex_buildSlice hT hnp ho hg hρ h
  | build t ps => exact ex_build hT ho hg hρ h
  | fieldAddr t x f => exact ex_fieldAddr hT ho hg hρ h
  | indexAddr t x y => exact ex_indexAddr hT ho hg hρ h
  | index t x y => exact ex_index hT ho hg hρ h
  | slice t x lo hi mx => exact ex_slice hT ho hg hρ h
  | lookup t m x ok => exact ex_lookup hT ho hg hρ h
  | mapUpdate t m x y => exact ex_mapUpdate hT ho hg hρ h
  | extract x n => exact ex_extract ho hg hρ h
  | call cl =>
    cases hcl : cl.callee with
    | value f => exact ex_callv hnp ho hcl hg hρ h
    | builtin b =>
      cases b with
      | len => exact ex_len hT ho hcl hg hρ h
      | append => exact ex_append hT hnp ho hcl hg hρ h
      | min => exact ex_min hT ho hcl hg hρ h
      | max => exact ex_max hT ho hcl hg hρ h
      | delete => exact ex_delete hT ho hcl hg hρ h
      | clear => exact ex_clear hT ho hcl hg hρ h
      | _ => simp only [vcE, ho, hcl] at h
    | _ => simp only [vcE, ho, hcl] at h
  | _ => simp only [vcE, ho] at h
end
end Go.Proofs.Ytcmciimogcfakaa

/- The walk through a region: its operations, one behind the other. -/
set_option linter.unusedVariables false
set_option linter.unusedSimpArgs false
namespace Go.Proofs.Ytcmciimogcfakaa
open Go Go.RowKit

/-- What lies among the deferred calls: marks of loops over functions, no call in any of them. -/
inductive Df (base : Option Nat) (c : Cx) : List Deferred → List Nat → Prop where
  | nil : Df base c [] []
  | cons {d : Deferred} {ds : List Deferred} {r : Nat} {rs : List Nat} (ht : d.target = .collected r) (hh : c.w.heap[r]? = some (.deferred (some []))) (hb : ∃ m, base = some m ∧ m ≤ r) (ho : ¬ c.own r) (hk : ¬ c.ok r) (hn : r ∉ rs) (h : Df base c ds rs) : Df base c (d :: ds) (r :: rs)
theorem Df.fr {base : Option Nat} {c d : Cx} {ds : List Deferred} {rs : List Nat} (h : Df base c ds rs) (hf : Fr c d) : Df base d ds rs := by
  induction h with
  | nil => exact .nil
  | @cons x xs r rs ht hh hb ho hk hn _ ih =>
    have hlt : r < c.w.heap.size := (Array.getElem?_eq_some_iff.1 hh).1
    exact .cons ht (by rw [hf.same r hlt ho]; exact hh) hb (fun h => (hf.own r h).elim ho fun h => by omega) (fun h => (hf.ok r h).elim hk fun h => h.elim ho fun h => by omega) hn ih

/-- The state of the walk tells an activation's state. T: what else is known of the moment; base: where the memory began. -/
structure Sim (T : Option Nat → Cx → Prop) (base : Option Nat) (G : List Value) (s : St) (c : Cx) (a : Act) : Prop where
  sz : a.tmps.size = s.nt
  tm : ∀ i, Rel c (s.t i) (a.tmps.getD i undef)
  good : Good c s.L
  gh : F2 (Rel c) s.g G
  df : ∃ rs, Df base c a.defers rs
  tt : T s.y c
theorem Sim.eval {T : Option Nat → Cx → Prop} {base : Option Nat} {G : List Value} {s : St} {c : Cx} {a : Act} (h : Sim T base G s c a) (x : Operand) : Rel c (s.ev x) (a.eval x) := by
  cases x with
  | tmp t => exact h.tm t
  | const v =>
    simp only [St.ev, Act.eval, ofConst]
    split <;> first | exact .pure (.int _ _) | exact .pure (.bool _) | exact .pure .nilsl | exact .pure (.any _)
  | global g => exact .pure (.any _)
  | func f => exact .fn (caps := []) (vs := []) f rfl fun i a v ha => by simp at ha
theorem getD_put (a : Act) (d : Nat) (v : Value) (i : Nat) (hd : d < a.tmps.size) : (a.put (some d) v).tmps.getD i undef = if i = d then v else a.tmps.getD i undef := by
  simp only [Act.put, Array.getD_eq_getD_getElem?, Array.getElem?_setIfInBounds]
  by_cases h : d = i
  · subst h; simp [hd]
  · simp [h, Ne.symm h]
/-- An operation's effect is put. -/
theorem Sim.ap {T : Option Nat → Cx → Prop} {base : Option Nat} {G : List Value} {s : St} {c d : Cx} {a : Act} (hst : ∀ y c d, Fr c d → T y c → T y d) (h : Sim T base G s c a) {np : Nat} {e : Eff} {v : Value} (hs : Stp c s.L np e v d) (dst : Option Tmp) (hd : ∀ t, dst = some t → t < s.nt) :
    Sim T base G (s.ap dst e) d (a.put dst v) := by
  refine ⟨?_, fun i => ?_, hs.good, ?_, ?_, hst _ _ _ hs.fr h.tt⟩
  · cases dst with
    | none => exact h.sz
    | some t => simp only [Act.put, Array.size_setIfInBounds]; exact h.sz
  · cases dst with
    | none =>
      show Rel d (apT s.L e s.t i) _
      rw [apT_eq]
      exact hs.tr _ _ (h.tm i)
    | some t =>
      rw [getD_put a t v i (by rw [h.sz]; exact hd t rfl)]
      show Rel d (upd (apT s.L e s.t) t e.v i) _
      by_cases hi : i = t
      · subst hi
        rw [upd_same, if_pos rfl]
        exact hs.val
      · rw [upd_ne _ _ hi, if_neg hi, apT_eq]
        exact hs.tr _ _ (h.tm i)
  · show F2 (Rel d) (apG s.L e s.g) G
    rw [apG_eq]
    exact h.gh.maps _ hs.tr
  · obtain ⟨rs, hr⟩ := h.df
    have := hr.fr hs.fr
    cases dst with
    | none => exact ⟨rs, this⟩
    | some t => exact ⟨rs, this⟩
def St.skip (s : St) : Option Nat → St
  | some d => { s with t := upd s.t d .und }
  | none => s
theorem Sim.skip {T : Option Nat → Cx → Prop} {base : Option Nat} {G : List Value} {s : St} {c : Cx} {a : Act} (h : Sim T base G s c a) (dst : Option Tmp) (hd : ∀ t, dst = some t → t < s.nt) : Sim T base G (s.skip dst) c (a.put dst undef) := by
  cases dst with
  | none => exact h
  | some t =>
    refine ⟨by simp only [Act.put, Array.size_setIfInBounds]; exact h.sz, fun i => ?_, h.good, h.gh, h.df, h.tt⟩
    rw [getD_put a t undef i (by rw [h.sz]; exact hd t rfl)]
    show Rel c (upd s.t t .und i) _
    by_cases hi : i = t
    · subst hi
      rw [upd_same, if_pos rfl]
      exact .pure .und
    · rw [upd_ne _ _ hi, if_neg hi]
      exact h.tm i
/-- A slot whose value is told by an equal term. -/
theorem Sim.lit {T : Option Nat → Cx → Prop} {base : Option Nat} {G : List Value} {s : St} {c : Cx} {a : Act} (h : Sim T base G s c a) {d : Nat} {v : AV} (hv : s.t d = v) : Sim T base G { s with t := upd s.t d v } c a := by
  have : upd s.t d v = s.t := upd_self hv
  rw [this]
  exact h

section
variable (P : Program) (Γ : Nat → Option TI) (np : Nat)
/-- The operation is carried out, or it is not: as its guard says. -/
def vcG (dst : Nat → Option Nat) (o : Oper) (s : St) (run skip : St → Prop) : Prop :=
  match o.guard with
  | none => run s
  | some (j, w) => match dst j with
    | some d => frc (s.t d) fun v => match v with
      | .bool t => splitB t fun t => match t, w with
        | true, true => run { s with t := upd s.t d (.bool true) }
        | false, false => run { s with t := upd s.t d (.bool false) }
        | true, false => skip { s with t := upd s.t d (.bool true) }
        | false, true => skip { s with t := upd s.t d (.bool false) }
      | .und => skip s
      | _ => False
    | none => False
def dstIn (all : List Oper) (j : Nat) : Option Nat := match all[j]? with | some o => o.dst | none => none
def dstOk (nt : Nat) : Option Nat → Bool
  | some d => Nat.blt d nt
  | none => true
/-- The next operation's effect, the special ones with it: a call of yield. -/
noncomputable def vcOps (Y : List AV → St → (AV → St → Prop) → Prop) (all l : List Oper) : St → (St → Prop) → Prop :=
  List.rec (motive := fun _ => St → (St → Prop) → Prop) (fun s k => k s) (fun o _ ih s k => match dstOk s.nt o.dst with
    | false => False
    | true => vcG (dstIn all) o s
      (fun s => match o.op with
        | .call c => match c.callee with
          | .value f => frc (s.ev f) fun v => match v with
            | .yld => frcL (c.args.toList.map s.ev) fun as => Y as s fun v s => ih { s with t := putT s.t o.dst v } k
            | _ => vcE P Γ np o s.ev s.L s.nx fun e => ih (s.ap o.dst e) k
          | _ => vcE P Γ np o s.ev s.L s.nx fun e => ih (s.ap o.dst e) k
        | _ => vcE P Γ np o s.ev s.L s.nx fun e => ih (s.ap o.dst e) k)
      (fun s => ih (s.skip o.dst) k)) l
theorem vcOps_nil (Y : List AV → St → (AV → St → Prop) → Prop) (all : List Oper) (s : St) (k : St → Prop) : vcOps P Γ np Y all [] s k = k s := rfl
theorem vcOps_cons (Y : List AV → St → (AV → St → Prop) → Prop) (all : List Oper) (o : Oper) (l : List Oper) (s : St) (k : St → Prop) : vcOps P Γ np Y all (o :: l) s k = match dstOk s.nt o.dst with
    | false => False
    | true => vcG (dstIn all) o s
      (fun s => match o.op with
        | .call c => match c.callee with
          | .value f => frc (s.ev f) fun v => match v with
            | .yld => frcL (c.args.toList.map s.ev) fun as => Y as s fun v s => vcOps P Γ np Y all l { s with t := putT s.t o.dst v } k
            | _ => vcE P Γ np o s.ev s.L s.nx fun e => vcOps P Γ np Y all l (s.ap o.dst e) k
          | _ => vcE P Γ np o s.ev s.L s.nx fun e => vcOps P Γ np Y all l (s.ap o.dst e) k
        | _ => vcE P Γ np o s.ev s.L s.nx fun e => vcOps P Γ np Y all l (s.ap o.dst e) k)
      (fun s => vcOps P Γ np Y all l (s.skip o.dst) k) := rfl
end
/-- What yield does, as the walk is told of it. -/
def YOk (P : Program) (T : Option Nat → Cx → Prop) (base : Option Nat) (G : List Value) (ρ : Option Nat) (n : Nat) (Y : List AV → St → (AV → St → Prop) → Prop) : Prop :=
  ∀ (o : Oper) (cl : Call) (f : Operand) (s : St) (c : Cx) (a : Act) (k : AV → St → Prop) (next : Act → World → Prop) (Q : Exit → Act → World → Prop), o.op = .call cl → cl.callee = .value f → s.ev f = .yld → dstOk s.nt o.dst = true → Sim T base G s c a →
    Y (cl.args.toList.map s.ev) s k → (∀ v s' d u, k v s' → Sim T base G { s' with t := putT s'.t o.dst v } d (a.put o.dst u) → next (a.put o.dst u) d.w) → o.wpIn (Fx ρ) n P a c.w next Q
def noY : List AV → St → (AV → St → Prop) → Prop := fun _ _ _ => False
theorem noY_ok (P : Program) (T : Option Nat → Cx → Prop) (base : Option Nat) (G : List Value) (ρ : Option Nat) (n : Nat) : YOk P T base G ρ n noY := fun _ _ _ _ _ _ _ _ _ _ _ _ _ _ h => h.elim

theorem yielded_of {ops : List Oper} {a : Act} {j d : Nat} (hd : dstIn ops j = some d) (hs : d < a.tmps.size) : yielded ops.toArray a.tmps j = match a.tmps.getD d undef with | .bool b => some b | _ => none := by
  unfold yielded
  unfold dstIn at hd
  cases ho : ops[j]? with
  | none => rw [ho] at hd; cases hd
  | some o =>
    rw [ho] at hd
    simp only at hd
    simp only [List.getElem?_toArray, ho, Option.bind_some, hd, Array.getElem?_eq_getElem hs, Array.getD_eq_getD_getElem?, Option.getD_some]
    cases a.tmps[d] <;> rfl

theorem vcOps_sound {P : Program} {Γ : Nat → Option TI} {np : Nat} {T : Option Nat → Cx → Prop} {base : Option Nat} {G : List Value} {ρ : Option Nat} {n : Nat} {Y : List AV → St → (AV → St → Prop) → Prop} (hT : TyOk P Γ) (hnp : np = 0) (hst : ∀ y c d, Fr c d → T y c → T y d) (hY : YOk P T base G ρ n Y) (all : List Oper)
    {Q : Exit → Act → World → Prop} {k : St → Prop} (hk : ∀ s c a, k s → Sim T base G s c a → Q .normal a c.w) : ∀ (l : List Oper) (pre : List Oper), pre ++ l = all → ∀ (s : St) (c : Cx) (a : Act), vcOps P Γ np Y all l s k → Sim T base G s c a →
      wpOpsIn (Fx ρ) n P all.toArray Q (List.range' pre.length l.length) a c.w
  | [], pre, hp, s, c, a, h, hs => hk s c a h hs
  | o :: l, pre, hp, s, c, a, h, hs => by
    have ih := fun s c a => vcOps_sound hT hnp hst hY all hk l (pre ++ [o]) (by simpa using hp) s c a
    have ho : all.toArray[pre.length]? = some o := by
      rw [← hp]
      simp
    simp only [List.length_cons, List.range'_succ]
    simp only [List.length_append, List.length_cons, List.length_nil, Nat.zero_add] at ih
    simp only [wpOpsIn, ho]
    rw [vcOps_cons] at h
    split at h
    · exact h.elim
    · rename_i hdo
      have hdo' : ∀ s' : St, s'.nt = s.nt → ∀ t, o.dst = some t → t < s'.nt := fun s' hs' t ht => by
        rw [ht] at hdo
        simp only [dstOk, Nat.blt_eq] at hdo
        rw [hs']
        exact hdo
      have run : ∀ s' : St, s'.nt = s.nt → Sim T base G s' c a → (match o.op with
          | .call c => match c.callee with
            | .value f => frc (s'.ev f) fun v => match v with
              | .yld => frcL (c.args.toList.map s'.ev) fun as => Y as s' fun v s => vcOps P Γ np Y all l { s with t := putT s.t o.dst v } k
              | _ => vcE P Γ np o s'.ev s'.L s'.nx fun e => vcOps P Γ np Y all l (s'.ap o.dst e) k
            | _ => vcE P Γ np o s'.ev s'.L s'.nx fun e => vcOps P Γ np Y all l (s'.ap o.dst e) k
          | _ => vcE P Γ np o s'.ev s'.L s'.nx fun e => vcOps P Γ np Y all l (s'.ap o.dst e) k) → o.wpIn (Fx ρ) n P a c.w (wpOpsIn (Fx ρ) n P all.toArray Q (List.range' (pre.length + 1) l.length)) Q := fun s' hnt hs' h => by
        have plain : vcE P Γ np o s'.ev s'.L s'.nx (fun e => vcOps P Γ np Y all l (s'.ap o.dst e) k) → o.wpIn (Fx ρ) n P a c.w (wpOpsIn (Fx ρ) n P all.toArray Q (List.range' (pre.length + 1) l.length)) Q := fun h => by
          obtain ⟨e, he, hx⟩ := vcE_sound hT (by omega) hs'.good hs'.eval h
          exact hx ρ n _ Q fun v d hd => ih _ d _ he (hs'.ap hst hd o.dst (hdo' s' hnt))
        split at h
        · rename_i cl hcl
          split at h
          · rename_i f hf
            rw [frc_eq] at h
            split at h
            · rename_i hy
              rw [frcL_eq] at h
              exact hY o cl f s' c a _ _ Q hcl hf hy (by rw [hnt]; exact hdo) hs' h fun v s'' d u hv hs'' => ih _ d _ hv hs''
            · exact plain h
          · exact plain h
        · exact plain h
      have skip : ∀ s' : St, s'.nt = s.nt → Sim T base G s' c a → vcOps P Γ np Y all l (s'.skip o.dst) k → (∀ f, o.about P c.w a.eval = some f → (Fx ρ).fn f) ∧ wpOpsIn (Fx ρ) n P all.toArray Q (List.range' (pre.length + 1) l.length) (a.put o.dst undef) c.w := fun s' hnt hs' h =>
        ⟨fun f _ => Fx_fn ρ f, ih _ c _ h (hs'.skip o.dst (hdo' s' hnt))⟩
      unfold vcG at h
      split at h
      · rename_i hg
        rw [if_pos (by simp [Region.wanted, hg])]
        exact run s rfl hs h
      · rename_i j w hg
        split at h
        · rename_i d hd
          rw [frc_eq] at h
          have hr := hs.tm d
          have hy : ∀ u, a.tmps.getD d undef = u → u ≠ undef → yielded all.toArray a.tmps j = match u with | .bool b => some b | _ => none := fun u hu hne => by
            rw [yielded_of hd (by
              rcases Nat.lt_or_ge d a.tmps.size with h | h
              · exact h
              · rw [Array.getD_eq_getD_getElem?, Array.getElem?_eq_none h] at hu
                exact absurd hu.symm hne), hu]
          split at h
          · rename_i t ht
            rw [ht] at hr
            have hb := hy _ hr.bool_inv (by simp [undef])
            rw [splitB_eq] at h
            have hw : Region.wanted o (yielded all.toArray a.tmps) = (t == w) := by
              simp only [Region.wanted, hg, hb]
              cases t <;> cases w <;> rfl
            rw [hw]
            cases t <;> cases w <;> simp only [Bool.beq_eq_decide_eq] at h ⊢
            · exact run { s with t := upd s.t d (.bool false) } rfl (hs.lit ht) h
            · exact skip { s with t := upd s.t d (.bool false) } rfl (hs.lit ht) h
            · exact skip { s with t := upd s.t d (.bool true) } rfl (hs.lit ht) h
            · exact run { s with t := upd s.t d (.bool true) } rfl (hs.lit ht) h
          · rename_i ht
            rw [ht] at hr
            have hu := hr.und_inv
            have hw : Region.wanted o (yielded all.toArray a.tmps) = false := by
              simp only [Region.wanted, hg]
              have : yielded all.toArray a.tmps j = none := by
                rcases Nat.lt_or_ge d a.tmps.size with h | h
                · rw [yielded_of hd h, hu]; rfl
                · unfold yielded
                  unfold dstIn at hd
                  cases ho : all[j]? with
                  | none => rw [ho] at hd; cases hd
                  | some o' =>
                    rw [ho] at hd
                    simp only at hd
                    simp [ho, hd, Array.getElem?_eq_none h]
              rw [this]
              rfl
            rw [hw]
            exact skip s rfl hs h
          · exact h.elim
        · exact h.elim
end Go.Proofs.Ytcmciimogcfakaa

/- The walk through code; a function's contract from its body. -/
set_option linter.unusedVariables false
set_option linter.unusedSimpArgs false
namespace Go.Proofs.Ytcmciimogcfakaa
open Go Go.RowKit

def below (base : Option Nat) (b : Nat) : Prop := ∃ m, base = some m ∧ b < m
/-- The world goes on elsewhere: nothing that Pr names, nothing that is the walk's own or never changes, is turned. -/
structure Ev (Pr : Nat → Prop) (c c' : Cx) : Prop where
  os : c'.w.os = c.w.os
  tape : c'.w.tape = c.w.tape
  output : c'.w.output = c.w.output
  size : c.w.heap.size ≤ c'.w.heap.size
  same : ∀ b, b < c.w.heap.size → (Pr b ∨ c.own b ∨ c.ok b) → c'.w.heap[b]? = c.w.heap[b]?
  μ : c'.μ = c.μ
  ok : c'.ok = c.ok
  yl : c'.yl = c.yl
  drn : c.w.drawn ≤ c'.w.drawn
abbrev StE (T : Option Nat → Cx → Prop) (base : Option Nat) : Prop := ∀ y c c', Ev (below base) c c' → T y c → T y c'
abbrev Stable (T : Option Nat → Cx → Prop) : Prop := ∀ y c d, Fr c d → T y c → T y d
section
variable {P : Program} {F : Fence} {n : Nat} {b : Frame} {a : Act} {k : List Item} {cs : List Frame} {w : World} {Q : Exit → Act → World → Prop}
theorem stepR_scope {c : Code} : step P (lone (b.atR a (.code (.scope c) :: k)) cs w) = .next (lone (b.atR a (.code c :: .inScope c :: k)) cs w) :=
  step_lone_go (by simp [stepG, stepG.exec, Frame.atR])
theorem stepR_inScope {c : Code} : step P (lone (b.atR a (.inScope c :: k)) cs w) = .next (lone (b.atR a k) cs w) :=
  step_lone_go (by simp [stepG, stepG.exec, Frame.atR])
theorem wpIn_scope {c : Code} (h : c.wpIn F n P (Exit.noGoto Q) a w) : (Code.scope c).wpIn F n P Q a w := by
  intro b k cs hro hb hr
  have h0 : (lone (b.atR a (.code (.scope c) :: k)) cs w).fenced P F := fenced_calm hb hr rfl
  obtain ⟨e, a₁, w₁, hq, harr⟩ := h b (.inScope c :: k) cs hro hb hr
  cases e with
  | normal => exact ⟨.normal, a₁, w₁, hq, .head h0 stepR_scope (StepsIn.trans harr (.one (fenced_calm hb hr rfl) stepR_inScope))⟩
  | exit id' =>
    have hx : exitTo id' (.inScope c :: k) = exitTo id' k := by simp [exitTo]
    exact ⟨.exit id', a₁, w₁, hq, fun k' hk => .head h0 stepR_scope (harr.1 k' (by rw [hx]; exact hk)),
        fun hr' hk => let ⟨k₁, h1, h2⟩ := harr.2 hr' (by rw [hx]; exact hk); ⟨k₁, h1, .head h0 stepR_scope h2⟩⟩
  | goto l => exact hq.elim
  | ret => exact ⟨_, a₁, w₁, hq, .of_steps (.one h0 stepR_scope) harr⟩
  | panic ch => exact ⟨_, a₁, w₁, hq, .of_steps (.one h0 stepR_scope) harr⟩
  | outgrown => exact ⟨_, a₁, w₁, hq, .of_steps (.one h0 stepR_scope) harr⟩
end
/-- The second state says no more than the first. -/
def Wk (s s' : St) : Prop := s'.y = s.y ∧ ∀ (T : Option Nat → Cx → Prop) (base : Option Nat) (G : List Value), Stable T → ∀ c a, Sim T base G s c a → ∃ d, d.w = c.w ∧ Fr c d ∧ Sim T base G s' d a
theorem Wk.refl (s : St) : Wk s s := ⟨rfl, fun _ _ _ _ c _ h => ⟨c, rfl, Fr.refl c, h⟩⟩
theorem Wk.trans {s s' s'' : St} (h : Wk s s') (h' : Wk s' s'') : Wk s s'' := by
  refine ⟨h'.1.trans h.1, fun T base G hst c a hs => ?_⟩
  obtain ⟨d, hd, hf, hs'⟩ := h.2 T base G hst c a hs
  obtain ⟨e, he, hf', hs''⟩ := h'.2 T base G hst d a hs'
  exact ⟨e, he.trans hd, hf.trans hf', hs''⟩
/-- Slots by a list; what is not listed is not known. -/
def tl : List (Nat × AV) → Nat → AV
  | [], _ => .any
  | (j, v) :: l, i => bif Nat.beq i j then v else tl l i
def Ll : List (Nat × Blk) → Nat → Blk
  | [], _ => .dead
  | (j, v) :: l, i => bif Nat.beq i j then v else Ll l i
def gKeep (K : List Nat) : AV → AV
  | .ptr i k j => bif memB K i then .ptr i k j else .any
  | .row i o m => bif memB K i then .row i o m else .any
  | .rowf i => bif memB K i then .rowf i else .any
  | .mp i => bif memB K i then .mp i else .any
  | .gst i e => bif memB K i then .gst i e else .any
  | a => a
def kA (K : List Nat) (a : AV) : AV := trav (gKeep K) 8 a
theorem beq_true_of {a b : Nat} (h : Nat.beq a b = true) : a = b := Nat.eq_of_beq_eq_true h
theorem kA_rel {c d : Cx} (K : List Nat) (hp : ∀ a v, R0 c.w c.ok a v → R0 d.w d.ok a v) (hy : d.yl = c.yl) (hμ : ∀ i e, memB K i = true → c.μ i = some e → d.μ i = some e) {a : AV} {v : Value} (h : Rel c a v) : Rel d (kA K a) v := by
  refine Rel.trav (c := c) (d := d) hp hy (fun a v hr h => ?_) h 8
  cases h with
  | pure h => cases h <;> simp [AV.isRef] at hr
  | fn => simp [AV.isRef] at hr
  | agg => simp [AV.isRef] at hr
  | tup => simp [AV.isRef] at hr
  | yld => simp [AV.isRef] at hr
  | ptr h hn =>
    rename_i i k j e
    simp only [gKeep]
    cases hl : memB K i with
    | false => exact .pure (.any _)
    | true => exact .ptr (hμ i e hl h) hn
  | row cc oo h hn ho hc hl' =>
    rename_i i o m e
    simp only [gKeep]
    cases hl : memB K i with
    | false => exact .pure (.any _)
    | true => exact .row cc oo (hμ i e hl h) hn ho hc hl'
  | rown h hn =>
    rename_i i e
    simp only [gKeep]
    cases hl : memB K i with
    | false => exact .pure (.any _)
    | true => exact .rown (hμ i e hl h) hn
  | rowf h =>
    rename_i i e
    simp only [gKeep]
    cases hl : memB K i with
    | false => exact .pure (.any _)
    | true => exact .rowf (hμ i e hl h)
  | mp h hn =>
    rename_i i e
    simp only [gKeep]
    cases hl : memB K i with
    | false => exact .pure (.any _)
    | true => exact .mp (hμ i e hl h) hn
  | gst h v =>
    rename_i i e
    simp only [gKeep]
    cases hl : memB K i with
    | false => exact .pure (.any _)
    | true => exact .gst (hμ i e hl h) v
def allP {α : Type} (p : α → Prop) : List α → Prop
  | [] => True
  | a :: l => p a ∧ allP p l
theorem allP_mem {α : Type} {p : α → Prop} {l : List α} (h : allP p l) {a : α} (ha : a ∈ l) : p a := by
  induction l with
  | nil => cases ha
  | cons b l ih =>
    rcases List.mem_cons.1 ha with rfl | ha
    · exact h.1
    · exact ih h.2 ha
theorem tl_case (l : List (Nat × AV)) (i : Nat) : tl l i = .any ∨ ∃ p ∈ l, p.1 = i ∧ tl l i = p.2 := by
  induction l with
  | nil => exact .inl rfl
  | cons p l ih =>
    obtain ⟨j, v⟩ := p
    simp only [tl]
    cases hb : Nat.beq i j with
    | true => exact .inr ⟨(j, v), by simp, (Nat.eq_of_beq_eq_true hb).symm, rfl⟩
    | false =>
      rcases ih with h | ⟨p, hp, h1, h2⟩
      · exact .inl h
      · exact .inr ⟨p, by simp [hp], h1, h2⟩
theorem Ll_case (l : List (Nat × Blk)) (i : Nat) : (Ll l i = .dead ∧ i ∉ l.map (·.1)) ∨ ∃ p ∈ l, p.1 = i ∧ Ll l i = p.2 := by
  induction l with
  | nil => exact .inl ⟨rfl, by simp⟩
  | cons p l ih =>
    obtain ⟨j, v⟩ := p
    simp only [Ll]
    cases hb : Nat.beq i j with
    | true => exact .inr ⟨(j, v), by simp, (Nat.eq_of_beq_eq_true hb).symm, rfl⟩
    | false =>
      rcases ih with ⟨h, h'⟩ | ⟨p, hp, h1, h2⟩
      · refine .inl ⟨h, ?_⟩
        have : i ≠ j := fun he => by subst he; simp at hb
        simpa [this] using h'
      · exact .inr ⟨p, by simp [hp], h1, h2⟩
theorem memB_iff (K : List Nat) (i : Nat) : memB K i = true ↔ i ∈ K := by
  unfold memB
  rw [List.any_eq_true]
  constructor
  · rintro ⟨x, hx, h⟩
    rw [Nat.eq_of_beq_eq_true h]
    exact hx
  · intro h
    exact ⟨i, h, by simp⟩
/-- Only the slots and the blocks that are listed are kept. -/
theorem Wk.keep {s : St} (ts : List (Nat × AV)) (bs : List (Nat × Blk)) (g : List AV) (nx : Nat) (hb : allP (fun p => (s.L p.1).map' (kA (bs.map (·.1))) = p.2) bs) (ht : allP (fun p => kA (bs.map (·.1)) (s.t p.1) = p.2) ts)
    (hal : bs.all (fun p => p.2.alive) = true) (hg : s.g.map (kA (bs.map (·.1))) = g) : Wk s ⟨tl ts, Ll bs, s.nt, nx, g, s.y⟩ := by
  refine ⟨rfl, fun T base G hst c a h => ?_⟩
  let K := bs.map (·.1)
  let d : Cx := ⟨c.w, c.ok, fun i => bif memB K i then c.μ i else none, c.yl⟩
  have hμ : ∀ i e, memB K i = true → c.μ i = some e → d.μ i = some e := fun i e hi he => by show (bif memB K i then c.μ i else none) = some e; rw [hi]; exact he
  have hμ' : ∀ i e, d.μ i = some e → memB K i = true ∧ c.μ i = some e := fun i e he => by
    change (bif memB K i then c.μ i else none) = some e at he
    cases hm : memB K i with
    | false => rw [hm] at he; cases he
    | true => rw [hm] at he; exact ⟨rfl, he⟩
  have hk : ∀ a v, Rel c a v → Rel d (kA K a) v := fun a v h => kA_rel (c := c) (d := d) K (fun _ _ h => h) rfl hμ h
  have hown : ∀ b, d.own b → c.own b := fun b ⟨i, e, he, hn, hb⟩ => ⟨i, e, (hμ' i e he).2, hn, hb⟩
  have hfr : Fr c d := ⟨rfl, rfl, rfl, Nat.le_refl _, fun _ _ _ => rfl, fun b hb => .inl (hown b hb), fun b hb => .inl hb, fun b hb => hb, rfl, Nat.le_refl _⟩
  refine ⟨d, rfl, hfr, h.sz, fun i => ?_, ⟨fun i hi => ?_, fun i e he => ?_, fun i j e e' he he' hn hn' hbb => ?_, fun b hb => ⟨(h.good.okd b hb).1, fun ho => (h.good.okd b hb).2 (hown b ho)⟩⟩, ?_, ?_, hst _ _ _ hfr h.tt⟩
  · rcases tl_case ts i with hi | ⟨p, hp, rfl, hi⟩
    · show Rel d (tl ts i) _
      rw [hi]
      exact .pure (.any _)
    · show Rel d (tl ts p.1) _
      rw [hi, ← allP_mem ht hp]
      exact hk _ _ (h.tm p.1)
  · rcases Ll_case bs i with ⟨hi', _⟩ | ⟨p, hp, rfl, hi'⟩
    · change (Ll bs i).alive = true at hi
      rw [hi'] at hi
      cases hi
    · change (Ll bs p.1).alive = true at hi
      rw [hi', ← allP_mem hb hp, alive_map'] at hi
      obtain ⟨e, he, hr⟩ := h.good.blk _ hi
      refine ⟨e, hμ _ _ ((memB_iff _ _).2 (List.mem_map.2 ⟨p, hp, rfl⟩)) he, ?_⟩
      show BlkRel d (Ll bs p.1) e
      rw [hi', ← allP_mem hb hp]
      exact hr.turn _ hk (fun _ _ h => h) fun _ => rfl
  · obtain ⟨hm, he'⟩ := hμ' i e he
    rcases Ll_case bs i with ⟨_, hi'⟩ | ⟨p, hp, rfl, hi'⟩
    · exact absurd ((memB_iff _ _).1 hm) hi'
    · show (Ll bs p.1).alive = true
      rw [hi']
      exact List.all_eq_true.1 hal p hp
  · exact h.good.inj i j e e' (hμ' i e he).2 (hμ' j e' he').2 hn hn' hbb
  · show F2 (Rel d) g G
    rw [← hg]
    exact h.gh.maps _ hk
  · obtain ⟨rs, hr⟩ := h.df
    exact ⟨rs, hr.fr hfr⟩
/-- A nil slice in a slot is taken for a row of the walk's own, empty yet. -/
theorem Wk.adopt {s : St} (i b ty sz : Nat) (hi : s.t i = .nilsl) (hb : (s.L b).alive = false) (h0 : 0 < sz) : Wk s { s with t := upd s.t i (.rowf b), L := upd s.L b (.rows ty sz []) } := by
  refine ⟨rfl, fun T base G hst c a h => ?_⟩
  let e : Ent := ⟨0, sz, 0, 0, true⟩
  have hb' : c.μ b = none := by
    cases h' : c.μ b with
    | none => rfl
    | some x => have := h.good.dom b x h'; rw [hb] at this; cases this
  let d : Cx := ⟨c.w, c.ok, upd c.μ b (some e), c.yl⟩
  have hμ : ∀ j x, c.μ j = some x → d.μ j = some x := fun j x hj => by
    show upd c.μ b (some e) j = some x
    rw [upd_ne _ _ (fun hjb => by subst hjb; rw [hb'] at hj; cases hj)]
    exact hj
  have hcase : ∀ j x, d.μ j = some x → (j = b ∧ x = e) ∨ (j ≠ b ∧ c.μ j = some x) := fun j x hj => by
    change upd c.μ b (some e) j = some x at hj
    by_cases hjb : j = b
    · subst hjb; rw [upd_same] at hj; cases hj; exact .inl ⟨rfl, rfl⟩
    · rw [upd_ne _ _ hjb] at hj; exact .inr ⟨hjb, hj⟩
  have hrel : ∀ a v, Rel c a v → Rel d a v := fun a v h => Rel.mono (c := c) (d := d) (fun _ _ h => h) rfl hμ h
  have hown : ∀ x, d.own x → c.own x := fun x ⟨j, y, hj, hn, hx⟩ => by
    rcases hcase j y hj with ⟨rfl, rfl⟩ | ⟨_, hj⟩
    · cases hn
    · exact ⟨j, y, hj, hn, hx⟩
  have hfr : Fr c d := ⟨rfl, rfl, rfl, Nat.le_refl _, fun _ _ _ => rfl, fun x hx => .inl (hown x hx), fun b hb => .inl hb, fun b hb => hb, rfl, Nat.le_refl _⟩
  have hdb : d.μ b = some e := upd_same _ _ _
  refine ⟨d, rfl, hfr, h.sz, fun j => ?_, ⟨fun j hj => ?_, fun j x hj => ?_, fun j l x y hj hl hx hy hxy => ?_, fun x hx => ⟨(h.good.okd x hx).1, fun ho => (h.good.okd x hx).2 (hown x ho)⟩⟩, h.gh.imp fun a v _ => hrel a v, ?_, hst _ _ _ hfr h.tt⟩
  · show Rel d (upd s.t i (.rowf b) j) _
    by_cases hji : j = i
    · subst hji
      rw [upd_same]
      have := h.tm j
      rw [hi] at this
      rw [this.nilsl_inv]
      exact .rowf (e := e) hdb
    · rw [upd_ne _ _ hji]
      exact hrel _ _ (h.tm j)
  · show ∃ e, d.μ j = some e ∧ BlkRel d (upd s.L b (.rows ty sz []) j) e
    by_cases hjb : j = b
    · subst hjb
      rw [upd_same]
      exact ⟨e, hdb, .rows [] (World.ownsRow_nil _ _ _ _) .nil rfl rfl (by simp) h0 (by simp)⟩
    · change (upd s.L b (.rows ty sz []) j).alive = true at hj
      rw [upd_ne _ _ hjb] at hj ⊢
      obtain ⟨x, hx, hr⟩ := h.good.blk j hj
      exact ⟨x, hμ _ _ hx, hr.keep hrel (fun _ _ h => h) fun _ => rfl⟩
  · show (upd s.L b (.rows ty sz []) j).alive = true
    rcases hcase j x hj with ⟨rfl, rfl⟩ | ⟨hjb, hj⟩
    · rw [upd_same]; rfl
    · rw [upd_ne _ _ hjb]
      exact h.good.dom j x hj
  · rcases hcase j x hj with ⟨rfl, rfl⟩ | ⟨hjb, hj⟩ <;> rcases hcase l y hl with ⟨rfl, rfl⟩ | ⟨hlb, hl⟩
    · rfl
    · cases hx
    · cases hy
    · exact h.good.inj j l x y hj hl hx hy hxy
  · obtain ⟨rs, hr⟩ := h.df
    exact ⟨rs, hr.fr hfr⟩

/-- A nil slice in a variable is taken for a row of the walk's own, empty yet. -/
theorem Wk.adoptB {s : St} (i b bt ty sz : Nat) (hi : s.L i = .box bt [.nilsl]) (hb : (s.L b).alive = false) (h0 : 0 < sz) : Wk s { s with L := upd (upd s.L i (.box bt [.rowf b])) b (.rows ty sz []) } := by
  refine ⟨rfl, fun T base G hst c a h => ?_⟩
  have hib : i ≠ b := fun he => by rw [he] at hi; rw [hi] at hb; cases hb
  let e : Ent := ⟨0, sz, 0, 0, true⟩
  have hb' : c.μ b = none := by
    cases h' : c.μ b with
    | none => rfl
    | some x => have := h.good.dom b x h'; rw [hb] at this; cases this
  let d : Cx := ⟨c.w, c.ok, upd c.μ b (some e), c.yl⟩
  have hμ : ∀ j x, c.μ j = some x → d.μ j = some x := fun j x hj => by
    show upd c.μ b (some e) j = some x
    rw [upd_ne _ _ (fun hjb => by subst hjb; rw [hb'] at hj; cases hj)]
    exact hj
  have hcase : ∀ j x, d.μ j = some x → (j = b ∧ x = e) ∨ (j ≠ b ∧ c.μ j = some x) := fun j x hj => by
    change upd c.μ b (some e) j = some x at hj
    by_cases hjb : j = b
    · subst hjb; rw [upd_same] at hj; cases hj; exact .inl ⟨rfl, rfl⟩
    · rw [upd_ne _ _ hjb] at hj; exact .inr ⟨hjb, hj⟩
  have hrel : ∀ a v, Rel c a v → Rel d a v := fun a v h => Rel.mono (c := c) (d := d) (fun _ _ h => h) rfl hμ h
  have hown : ∀ x, d.own x → c.own x := fun x ⟨j, y, hj, hn, hx⟩ => by
    rcases hcase j y hj with ⟨rfl, rfl⟩ | ⟨_, hj⟩
    · cases hn
    · exact ⟨j, y, hj, hn, hx⟩
  have hfr : Fr c d := ⟨rfl, rfl, rfl, Nat.le_refl _, fun _ _ _ => rfl, fun x hx => .inl (hown x hx), fun b hb => .inl hb, fun b hb => hb, rfl, Nat.le_refl _⟩
  have hdb : d.μ b = some e := upd_same _ _ _
  refine ⟨d, rfl, hfr, h.sz, fun j => hrel _ _ (h.tm j), ⟨fun j hj => ?_, fun j x hj => ?_, fun j l x y hj hl hx hy hxy => ?_, fun x hx => ⟨(h.good.okd x hx).1, fun ho => (h.good.okd x hx).2 (hown x ho)⟩⟩, h.gh.imp fun a v _ => hrel a v, ?_, hst _ _ _ hfr h.tt⟩
  · show ∃ e, d.μ j = some e ∧ BlkRel d (upd (upd s.L i (.box bt [.rowf b])) b (.rows ty sz []) j) e
    by_cases hjb : j = b
    · subst hjb
      rw [upd_same]
      exact ⟨e, hdb, .rows [] (World.ownsRow_nil _ _ _ _) .nil rfl rfl (by simp) h0 (by simp)⟩
    · change (upd (upd s.L i (.box bt [.rowf b])) b (.rows ty sz []) j).alive = true at hj
      rw [upd_ne _ _ hjb] at hj ⊢
      by_cases hji : j = i
      · subst hji
        rw [upd_same]
        obtain ⟨x, hx, hr⟩ := h.good.blk j (by rw [hi]; rfl)
        rw [hi] at hr
        refine ⟨x, hμ _ _ hx, ?_⟩
        cases hr with
        | box vs hn hh h2 =>
        cases h2 with
        | cons hr ht =>
        cases ht
        rw [hr.nilsl_inv] at hh
        exact .box _ hn hh (.cons (.rowf (e := e) hdb) .nil)
      · rw [upd_ne _ _ hji] at hj ⊢
        obtain ⟨x, hx, hr⟩ := h.good.blk j hj
        exact ⟨x, hμ _ _ hx, hr.keep hrel (fun _ _ h => h) fun _ => rfl⟩
  · show (upd (upd s.L i (.box bt [.rowf b])) b (.rows ty sz []) j).alive = true
    rcases hcase j x hj with ⟨rfl, rfl⟩ | ⟨hjb, hj⟩
    · rw [upd_same]; rfl
    · rw [upd_ne _ _ hjb]
      by_cases hji : j = i
      · subst hji; rw [upd_same]; rfl
      · rw [upd_ne _ _ hji]
        exact h.good.dom j x hj
  · rcases hcase j x hj with ⟨rfl, rfl⟩ | ⟨hjb, hj⟩ <;> rcases hcase l y hl with ⟨rfl, rfl⟩ | ⟨hlb, hl⟩
    · rfl
    · cases hx
    · cases hy
    · exact h.good.inj j l x y hj hl hx hy hxy
  · obtain ⟨rs, hr⟩ := h.df
    exact ⟨rs, hr.fr hfr⟩

/-- Some blocks never change any more. -/
theorem Wk.fz (s : St) (l : List Nat) : Wk s { s with t := fun i => fzA s.L l (s.t i), L := fzL l s.L, g := s.g.map (fzA s.L l) } := by
  refine ⟨rfl, fun T base G hst c a h => ?_⟩
  obtain ⟨d, hw, _, hfr, hgd, hrel, _⟩ := fz_step h.good l
  obtain ⟨rs, hr⟩ := h.df
  exact ⟨d, hw, hfr, h.sz, fun i => hrel _ _ (h.tm i), hgd, h.gh.maps _ hrel, ⟨rs, hr.fr hfr⟩, hst _ _ _ hfr h.tt⟩
/-- A nil slice in a variable's cell is taken for a row of the walk's own, empty yet. -/
theorem Wk.adoptC {s : St} (i b bt ty sz q : Nat) (cs : List AV) (hi : s.L i = .box bt cs) (hq : cs[q]? = some .nilsl) (hb : (s.L b).alive = false) (h0 : 0 < sz) : Wk s { s with L := upd (upd s.L i (.box bt (cs.set q (.rowf b)))) b (.rows ty sz []) } := by
  refine ⟨rfl, fun T base G hst c a h => ?_⟩
  have hib : i ≠ b := fun he => by rw [he] at hi; rw [hi] at hb; cases hb
  let e : Ent := ⟨0, sz, 0, 0, true⟩
  have hb' : c.μ b = none := by
    cases h' : c.μ b with
    | none => rfl
    | some x => have := h.good.dom b x h'; rw [hb] at this; cases this
  let d : Cx := ⟨c.w, c.ok, upd c.μ b (some e), c.yl⟩
  have hμ : ∀ j x, c.μ j = some x → d.μ j = some x := fun j x hj => by
    show upd c.μ b (some e) j = some x
    rw [upd_ne _ _ (fun hjb => by subst hjb; rw [hb'] at hj; cases hj)]
    exact hj
  have hcase : ∀ j x, d.μ j = some x → (j = b ∧ x = e) ∨ (j ≠ b ∧ c.μ j = some x) := fun j x hj => by
    change upd c.μ b (some e) j = some x at hj
    by_cases hjb : j = b
    · subst hjb; rw [upd_same] at hj; cases hj; exact .inl ⟨rfl, rfl⟩
    · rw [upd_ne _ _ hjb] at hj; exact .inr ⟨hjb, hj⟩
  have hrel : ∀ a v, Rel c a v → Rel d a v := fun a v h => Rel.mono (c := c) (d := d) (fun _ _ h => h) rfl hμ h
  have hown : ∀ x, d.own x → c.own x := fun x ⟨j, y, hj, hn, hx⟩ => by
    rcases hcase j y hj with ⟨rfl, rfl⟩ | ⟨_, hj⟩
    · cases hn
    · exact ⟨j, y, hj, hn, hx⟩
  have hfr : Fr c d := ⟨rfl, rfl, rfl, Nat.le_refl _, fun _ _ _ => rfl, fun x hx => .inl (hown x hx), fun b hb => .inl hb, fun b hb => hb, rfl, Nat.le_refl _⟩
  have hdb : d.μ b = some e := upd_same _ _ _
  refine ⟨d, rfl, hfr, h.sz, fun j => hrel _ _ (h.tm j), ⟨fun j hj => ?_, fun j x hj => ?_, fun j l x y hj hl hx hy hxy => ?_, fun x hx => ⟨(h.good.okd x hx).1, fun ho => (h.good.okd x hx).2 (hown x ho)⟩⟩, h.gh.imp fun a v _ => hrel a v, ?_, hst _ _ _ hfr h.tt⟩
  · show ∃ e, d.μ j = some e ∧ BlkRel d (upd (upd s.L i (.box bt (cs.set q (.rowf b)))) b (.rows ty sz []) j) e
    by_cases hjb : j = b
    · subst hjb
      rw [upd_same]
      exact ⟨e, hdb, .rows [] (World.ownsRow_nil _ _ _ _) .nil rfl rfl (by simp) h0 (by simp)⟩
    · change (upd (upd s.L i (.box bt (cs.set q (.rowf b)))) b (.rows ty sz []) j).alive = true at hj
      rw [upd_ne _ _ hjb] at hj ⊢
      by_cases hji : j = i
      · subst hji
        rw [upd_same]
        obtain ⟨x, hx, hr⟩ := h.good.blk j (by rw [hi]; rfl)
        rw [hi] at hr
        refine ⟨x, hμ _ _ hx, ?_⟩
        cases hr with
        | box vs hn hh h2 =>
        obtain ⟨v, hv, hr⟩ := h2.get q hq
        have hv' := hr.nilsl_inv
        have h3 := (h2.imp fun a v _ => hrel a v).set q (.rowf (e := e) hdb)
        have e1 : vs.set q e.val = vs := by
          refine List.ext_getElem? fun m => ?_
          rw [List.getElem?_set]
          split
          · rename_i hqm
            subst hqm
            rw [hv, hv']
            rw [if_pos (List.getElem?_eq_some_iff.1 hv).1]
            rfl
          · rfl
        rw [e1] at h3
        exact .box vs hn hh h3
      · rw [upd_ne _ _ hji] at hj ⊢
        obtain ⟨x, hx, hr⟩ := h.good.blk j hj
        exact ⟨x, hμ _ _ hx, hr.keep hrel (fun _ _ h => h) fun _ => rfl⟩
  · show (upd (upd s.L i (.box bt (cs.set q (.rowf b)))) b (.rows ty sz []) j).alive = true
    rcases hcase j x hj with ⟨rfl, rfl⟩ | ⟨hjb, hj⟩
    · rw [upd_same]; rfl
    · rw [upd_ne _ _ hjb]
      by_cases hji : j = i
      · subst hji; rw [upd_same]; rfl
      · rw [upd_ne _ _ hji]
        exact h.good.dom j x hj
  · rcases hcase j x hj with ⟨rfl, rfl⟩ | ⟨hjb, hj⟩ <;> rcases hcase l y hl with ⟨rfl, rfl⟩ | ⟨hlb, hl⟩
    · rfl
    · cases hx
    · cases hy
    · exact h.good.inj j l x y hj hl hx hy hxy
  · obtain ⟨rs, hr⟩ := h.df
    exact ⟨rs, hr.fr hfr⟩

section
variable (P : Program) (Γ : Nat → Option TI) (Y : List AV → St → (AV → St → Prop) → Prop) (D : List Oper → St → (St → Prop) → Prop) (R : Operand → Array Tmp → Code → Code → (Exit → St → Prop) → St → Prop)
/-- What code asks. -/
noncomputable def vcC (x : Code) : (Exit → St → Prop) → St → Prop :=
  Code.rec (motive := fun _ => (Exit → St → Prop) → St → Prop)
    (fun Q s => Q .normal s)
    (fun _ ops d Q s => match d with | false => vcOps P Γ 0 Y ops.toList ops.toList s (Q .normal) | true => D ops.toList s (Q .normal))
    (fun _ _ ihx ihy Q s => ihx (fun e s => match e with | .normal => ∃ s', Wk s s' ∧ ihy Q s' | e => Q e s) s)
    (fun c _ _ ihx ihy Q s => frc (s.ev c) fun v => match v with
      | .bool t => splitB t fun t => match t, c with
        | true, .tmp d => ihx Q { s with t := upd s.t d (.bool true) }
        | false, .tmp d => ihy Q { s with t := upd s.t d (.bool false) }
        | true, _ => ihx Q s
        | false, _ => ihy Q s
      | _ => False)
    (fun id _ ih Q s => ih (fun e s => match e with | .exit j => (match Nat.beq j id with | true => Q .normal s | false => Q (.exit j) s) | e => Q e s) s)
    (fun _ ih Q s => ∃ (α : Type) (p : α → Prop) (F : α → St) (m : α → Nat), (∃ i, Wk s (F i) ∧ p i) ∧ ∀ i, p i → ih (fun e s => match e with | .normal => ∃ j, Wk s (F j) ∧ p j ∧ m j < m i | e => Q e s) (F i))
    (fun f ps x y _ _ Q s => R f ps x y Q s)
    (fun id Q s => Q (.exit id) s)
    (fun _ ih Q s => ih (fun e s => match e with | .goto _ => False | e => Q e s) s)
    (fun _ Q s => Q .normal s)
    (fun _ _ _ => False)
    (fun Q s => Q .ret s)
    (fun _ _ _ => False) x
theorem vcC_cond (c : Operand) (x y : Code) (Q : Exit → St → Prop) (s : St) : vcC P Γ Y D R (.cond c x y) Q s = frc (s.ev c) fun v => match v with
      | .bool t => splitB t fun t => match t, c with
        | true, .tmp d => vcC P Γ Y D R x Q { s with t := upd s.t d (.bool true) }
        | false, .tmp d => vcC P Γ Y D R y Q { s with t := upd s.t d (.bool false) }
        | true, _ => vcC P Γ Y D R x Q s
        | false, _ => vcC P Γ Y D R y Q s
      | _ => False := rfl
end
def DOk (P : Program) (T : Option Nat → Cx → Prop) (base : Option Nat) (G : List Value) (ρ : Option Nat) (n : Nat) (D : List Oper → St → (St → Prop) → Prop) : Prop :=
  ∀ (ops : List Oper) (s : St) (k : St → Prop) (c : Cx) (a : Act) (id : Nat) (Q : Exit → Act → World → Prop), D ops s k → Sim T base G s c a → (∀ s' d a', k s' → Sim T base G s' d a' → Q .normal a' d.w) → (Code.region id ops.toArray true).wpIn (Fx ρ) n P Q a c.w
def ROk (P : Program) (T : Option Nat → Cx → Prop) (base : Option Nat) (G : List Value) (ρ : Option Nat) (n : Nat) (R : Operand → Array Tmp → Code → Code → (Exit → St → Prop) → St → Prop) : Prop :=
  ∀ (f : Operand) (ps : Array Tmp) (x y : Code) (s : St) (Q : Exit → St → Prop) (c : Cx) (a : Act) (Q' : Exit → Act → World → Prop), R f ps x y Q s → Sim T base G s c a → (∀ e s' d a', Q e s' → Sim T base G s' d a' → Q' e a' d.w) → (Code.rangeFunc f ps x y).wpIn (Fx ρ) n P Q' a c.w
theorem ops_arr (ops : Array Oper) : ops.toList.toArray = ops := Array.toArray_toList
theorem vcC_sound {P : Program} {Γ : Nat → Option TI} {T : Option Nat → Cx → Prop} {base : Option Nat} {G : List Value} {ρ : Option Nat} {n : Nat} {Y : List AV → St → (AV → St → Prop) → Prop} {D : List Oper → St → (St → Prop) → Prop} {R : Operand → Array Tmp → Code → Code → (Exit → St → Prop) → St → Prop}
    (hT : TyOk P Γ) (hst : Stable T) (hY : YOk P T base G ρ n Y) (hD : DOk P T base G ρ n D) (hR : ROk P T base G ρ n R) : ∀ (x : Code) (s : St) (c : Cx) (a : Act) (Q : Exit → St → Prop) (Q' : Exit → Act → World → Prop), vcC P Γ Y D R x Q s → Sim T base G s c a →
      (∀ e s' d a', Q e s' → Sim T base G s' d a' → Q' e a' d.w) → x.wpIn (Fx ρ) n P Q' a c.w := by
  intro x
  induction x with
  | skip => intro s c a Q Q' h hs hQ; exact wpIn_skip (hQ _ _ _ _ h hs)
  | label l => intro s c a Q Q' h hs hQ; exact wpIn_label (hQ _ _ _ _ h hs)
  | region id ops dr =>
    intro s c a Q Q' h hs hQ
    cases dr with
    | false =>
      refine wpIn_region ?_
      have := vcOps_sound (Q := Q') hT rfl hst hY ops.toList (k := Q .normal) (fun s c a hk hs => hQ _ _ _ _ hk hs) ops.toList [] rfl s c a h hs
      rw [ops_arr] at this
      have e : List.range ops.size = List.range' 0 ops.toList.length := by rw [List.range_eq_range']; simp
      rw [e]
      exact this
    | true =>
      have := hD ops.toList s _ c a id Q' h hs fun s' d a' hk hs => hQ _ _ _ _ hk hs
      rw [ops_arr] at this
      exact this
  | seq x y ihx ihy =>
    intro s c a Q Q' h hs hQ
    refine wpIn_seq (ihx s c a _ _ h hs fun e s' d a' hk hs' => ?_)
    cases e with
    | normal =>
      obtain ⟨s'', hw, hk⟩ := hk
      obtain ⟨d', hd', _, hs''⟩ := hw.2 T base G hst d a' hs'
      show y.wpIn (Fx ρ) n P Q' a' d.w
      rw [← hd']
      exact ihy _ _ _ _ _ hk hs'' hQ
    | exit _ => exact hQ _ _ _ _ hk hs'
    | goto _ => exact hQ _ _ _ _ hk hs'
    | ret => exact hQ _ _ _ _ hk hs'
    | panic _ => exact hQ _ _ _ _ hk hs'
    | outgrown => exact hQ _ _ _ _ hk hs'
  | cond cc x y ihx ihy =>
    intro s c a Q Q' h hs hQ
    rw [vcC_cond, frc_eq] at h
    have hr := hs.eval cc
    split at h
    · rename_i t ht
      rw [ht] at hr
      rw [splitB_eq] at h
      refine wpIn_cond hr.bool_inv ?_
      split at h
      · rename_i d
        exact ihx _ _ _ _ _ h (hs.lit ht) hQ
      · rename_i d
        exact ihy _ _ _ _ _ h (hs.lit ht) hQ
      · exact ihx _ _ _ _ _ h hs hQ
      · exact ihy _ _ _ _ _ h hs hQ
    · exact h.elim
  | block id x ihx =>
    intro s c a Q Q' h hs hQ
    refine wpIn_block (ihx s c a _ _ h hs fun e s' d a' hk hs' => ?_)
    cases e with
    | normal => exact hQ _ _ _ _ hk hs'
    | exit j =>
      simp only [Exit.inBlock]
      by_cases hj : j = id
      · subst hj
        simp only [Nat.beq_refl] at hk
        rw [if_pos rfl]
        exact hQ _ _ _ _ hk hs'
      · have : Nat.beq j id = false := by
          cases hb : Nat.beq j id with
          | false => rfl
          | true => exact absurd (Nat.eq_of_beq_eq_true hb) hj
        simp only [this] at hk
        rw [if_neg hj]
        exact hQ _ _ _ _ hk hs'
    | goto _ => exact hQ _ _ _ _ hk hs'
    | ret => exact hQ _ _ _ _ hk hs'
    | panic _ => exact hQ _ _ _ _ hk hs'
    | outgrown => exact hQ _ _ _ _ hk hs'
  | loop x ihx =>
    intro s c a Q Q' h hs hQ
    obtain ⟨α, p, F, m, ⟨i, hw, hi⟩, hround⟩ := h
    have key : ∀ (N : Nat) (i : α) (c : Cx) (a : Act), m i < N → p i → Sim T base G (F i) c a → Code.roundsIn (Fx ρ) n P x Q' N a c.w := by
      intro N
      induction N with
      | zero => intro i c a h; omega
      | succ N ihN =>
        intro i c a hN hp hs
        rw [roundsIn_succ]
        refine ihx _ _ _ _ _ (hround i hp) hs fun e s' d a' hk hs' => ?_
        cases e with
        | normal =>
          obtain ⟨j, hw, hpj, hm⟩ := hk
          obtain ⟨d', hd', _, hs''⟩ := hw.2 T base G hst d a' hs'
          show Code.roundsIn (Fx ρ) n P x Q' N a' d.w
          rw [← hd']
          exact ihN j d' a' (by omega) hpj hs''
        | exit _ => exact hQ _ _ _ _ hk hs'
        | goto _ => exact hQ _ _ _ _ hk hs'
        | ret => exact hQ _ _ _ _ hk hs'
        | panic _ => exact hQ _ _ _ _ hk hs'
        | outgrown => exact hQ _ _ _ _ hk hs'
    obtain ⟨d, hd, _, hs'⟩ := hw.2 T base G hst c a hs
    rw [← hd]
    exact wpIn_loop_rounds (m i + 1) (key (m i + 1) i d a (by omega) hi hs')
  | rangeFunc f ps x y _ _ => intro s c a Q Q' h hs hQ; exact hR f ps x y s Q c a Q' h hs hQ
  | exit id => intro s c a Q Q' h hs hQ; exact wpIn_exit (hQ _ _ _ _ h hs)
  | ret => intro s c a Q Q' h hs hQ; exact wpIn_ret (hQ _ _ _ _ h hs)
  | scope _ ih =>
    intro s c a Q Q' h hs hQ
    refine wpIn_scope (ih s c a _ _ h hs fun e s' d a' he hs' => ?_)
    cases e with
    | goto _ => exact he.elim
    | normal => exact hQ _ _ _ _ he hs'
    | exit _ => exact hQ _ _ _ _ he hs'
    | ret => exact hQ _ _ _ _ he hs'
    | panic _ => exact hQ _ _ _ _ he hs'
    | outgrown => exact hQ _ _ _ _ he hs'
  | goto _ => intro s c a Q Q' h; exact h.elim
  | refuse _ => intro s c a Q Q' h; exact h.elim

/-- The value of a result. -/
def resOne (Γ : Nat → Option TI) (s : St) : ResultVar → (AV → Prop) → Prop
  | .tmp t, k => frc (s.t t) k
  | .cell t ty, k => match Γ ty with
    | some i => frc (s.t t) fun p => match p with
      | .ptr b 0 q => match s.L b with
        | .box _ cs => ldC i (cs.drop q) k
        | _ => False
      | _ => False
    | none => False
def resAll (Γ : Nat → Option TI) (s : St) : List ResultVar → (List AV → Prop) → Prop
  | [], k => k []
  | r :: l, k => resOne Γ s r fun v => resAll Γ s l fun vs => k (v :: vs)
def resV : List AV → AV
  | [v] => v
  | vs => .tup vs
/-- The body's end is the contract's result. -/
def post (Γ : Nat → Option TI) (rs : List ResultVar) (r : AV) : Exit → St → Prop
  | .normal, s => resAll Γ s rs fun vs => pur s.L (fun _ => true) 8 (resV vs) = r
  | .ret, s => resAll Γ s rs fun vs => pur s.L (fun _ => true) 8 (resV vs) = r
  | _, _ => False
def arg (args : List AV) (i : Nat) : AV := match args[i]? with | some v => v | none => .und
def st0 (args : List AV) (nt : Nat) : St := ⟨arg args, fun _ => .dead, nt, 0, [], none⟩
end Go.Proofs.Ytcmciimogcfakaa

/- A function's contract from its body. -/
set_option linter.unusedVariables false
set_option linter.unusedSimpArgs false
namespace Go.Proofs.Ytcmciimogcfakaa
open Go Go.RowKit

theorem post_eq (Γ : Nat → Option TI) (rs : List ResultVar) (r : AV) (e : Exit) (s : St) (h : post Γ rs r e s) : (e = .normal ∨ e = .ret) ∧ resAll Γ s rs fun vs => pur s.L (fun _ => true) 8 (resV vs) = r := by
  cases e <;> first | exact ⟨.inl rfl, h⟩ | exact ⟨.inr rfl, h⟩ | exact h.elim
def resSem (tmps : Array Value) : ResultVar → Sem Value
  | .tmp t => pure (tmps.getD t undef)
  | .cell a t => do loadVar t (← asAddr (tmps.getD a undef))
theorem results_eq (fn : Func) (tmps : Array Value) : results fn tmps = (do let vs ← fn.results.mapM (resSem tmps); pure (if h : vs.size = 1 then vs[0] else .tuple vs)) := by
  unfold results
  congr 1
section
variable {P : Program} {Γ : Nat → Option TI} {c : Cx}
theorem resOne_sound (hT : TyOk P Γ) {s : St} {tmps : Array Value} (hg : Good c s.L) (ht : ∀ i, Rel c (s.t i) (tmps.getD i undef)) {r : ResultVar} {k : AV → Prop} (h : resOne Γ s r k) :
    ∃ a v, k a ∧ Rel c a v ∧ (resSem tmps r).run P c.w = .ok v c.w := by
  cases r with
  | tmp t =>
    simp only [resOne, frc_eq] at h
    exact ⟨_, _, h, ht t, rfl⟩
  | cell t ty =>
    simp only [resOne, frc_eq] at h
    have hx := ht t
    split at h
    · rename_i i hi
      have hi := hT _ _ hi
      split at h
      · rename_i b q hp
        rw [hp] at hx
        obtain ⟨e, hμ, hn, he⟩ := hx.ptr_inv
        obtain ⟨e', hμ', hB⟩ := hg.blk b (hg.dom b e hμ)
        rw [hμ] at hμ'; cases hμ'
        split at h
        · rename_i ty' cs hL
          rw [hL] at hB
          cases hB with
          | box vs _ hh h2 =>
          have hlen := h2.length
          obtain ⟨av, v, hk, hr, hv⟩ := ldC_sound (b := e.b) (off := 0 * e.sz + q) (us := fun z => vs.getD (q + z) undef) hi (c := c) (fun z hz => by
            rw [List.length_drop] at hz
            rw [cell_of hh, List.getD_eq_getElem?_getD, Nat.zero_mul, Nat.zero_add, List.getElem?_toArray, List.getElem?_eq_getElem (by omega)]
            rfl) (fun z av hz => by
            rw [List.getElem?_drop] at hz
            obtain ⟨v, hv, hr'⟩ := h2.get _ hz
            rw [List.getD_eq_getElem?_getD, hv]
            exact hr') h
          refine ⟨av, v, hk, hv, ?_⟩
          simpa [resSem, Instr.loadAt, Instr.sureAddr, asAddr, he] using hr
        · exact h.elim
      · exact h.elim
    · exact h.elim
theorem resAll_sound (hT : TyOk P Γ) {s : St} {tmps : Array Value} (hg : Good c s.L) (ht : ∀ i, Rel c (s.t i) (tmps.getD i undef)) : ∀ (rs : List ResultVar) {k : List AV → Prop}, resAll Γ s rs k →
    ∃ as vs, k as ∧ F2 (Rel c) as vs ∧ (rs.mapM (resSem tmps)).run P c.w = .ok vs c.w
  | [], k, h => ⟨[], [], h, .nil, rfl⟩
  | r :: rs, k, h => by
    obtain ⟨a, v, h1, hr, hrun⟩ := resOne_sound hT hg ht h
    obtain ⟨as, vs, h2, hrs, hruns⟩ := resAll_sound hT hg ht rs h1
    refine ⟨a :: as, v :: vs, h2, .cons hr hrs, ?_⟩
    rw [List.mapM_cons]
    simp only [Sem.run_bind]
    simp only [hrun, Result.andThen_ok, hruns, Sem.run_pure]
theorem results_sound (hT : TyOk P Γ) {fn : Func} {s : St} {tmps : Array Value} (hg : Good c s.L) (ht : ∀ i, Rel c (s.t i) (tmps.getD i undef)) {r : AV} (h : resAll Γ s fn.results.toList fun vs => pur s.L (fun _ => true) 8 (resV vs) = r) :
    ∃ v, (results fn tmps).run P c.w = .ok v c.w ∧ R0 c.w (okF c (fun _ => true)) r v := by
  obtain ⟨as, vs, hk, h2, hrun⟩ := resAll_sound hT hg ht fn.results.toList h
  have hr : Rel c (resV as) (if h : vs.toArray.size = 1 then vs.toArray[0] else .tuple vs.toArray) := by
    rcases vs with _ | ⟨v, _ | ⟨v', vs⟩⟩
    · cases h2; exact .tup (cs := []) (vs := []) rfl fun i a v h => by simp at h
    · cases h2 with
      | cons hr ht => cases ht; simpa [resV] using hr
    · cases h2 with
      | cons hr ht => cases ht with
        | cons hr' ht' =>
          rw [dif_neg (by simp)]
          have h3 := F2.cons hr (F2.cons hr' ht')
          exact .tup h3.length fun i a v ha hv => by
            obtain ⟨u, hu, hr⟩ := h3.get i ha
            rw [hu] at hv; cases hv
            exact hr
  refine ⟨_, ?_, hk ▸ pur_sound hg (fun _ => true) 8 _ _ hr⟩
  simp only [results_eq, Array.mapM_eq_mapM_toList, Sem.run_bind, Sem.run_map]
  rw [hrun]
  rfl
/-- A mark is taken: nothing that the walk knows turns. -/
theorem mark_step {L : Nat → Blk} {c0 : Cx} {r : Nat} (hg : Good c L) (ho : ¬ c.own r) (hk : ¬ c.ok r) (hb : c0.w.heap.size ≤ r) (hfr : Fr c0 c) (ob : Obj) :
    Good ⟨c.w.putObj r ob, c.ok, c.μ, c.yl⟩ L ∧ (∀ a v, Rel c a v → Rel ⟨c.w.putObj r ob, c.ok, c.μ, c.yl⟩ a v) ∧ Fr c0 ⟨c.w.putObj r ob, c.ok, c.μ, c.yl⟩ := by
  have hh : ∀ b, b ≠ r → (c.w.putObj r ob).heap[b]? = c.w.heap[b]? := fun b hb => World.putObj_heap_other hb
  have hsz : (c.w.putObj r ob).heap.size = c.w.heap.size := by simp
  have hr0 : ∀ a v, R0 c.w c.ok a v → R0 (c.w.putObj r ob) c.ok a v := fun a v h => h.mono (fun _ h => h) fun b hb => hh b fun he => hk (he ▸ hb)
  have hrel : ∀ a v, Rel c a v → Rel ⟨c.w.putObj r ob, c.ok, c.μ, c.yl⟩ a v := fun a v h => Rel.mono (d := ⟨c.w.putObj r ob, c.ok, c.μ, c.yl⟩) hr0 rfl (fun _ _ h => h) h
  refine ⟨⟨fun i hi => ?_, hg.dom, hg.inj, fun b hb => ⟨by show b < (c.w.putObj r ob).heap.size; rw [hsz]; exact (hg.okd b hb).1, (hg.okd b hb).2⟩⟩, hrel, ⟨hfr.os, hfr.tape, hfr.output, by show _ ≤ (c.w.putObj r ob).heap.size; rw [hsz]; exact hfr.size, fun b hb' hno => ?_, hfr.own, hfr.ok, hfr.mono, hfr.yl, hfr.drn⟩⟩
  · obtain ⟨e, he, hr⟩ := hg.blk i hi
    exact ⟨e, he, hr.keep hrel hr0 fun hn => hh _ fun hbr => ho ⟨i, e, he, hn, hbr⟩⟩
  · show (c.w.putObj r ob).heap[b]? = _
    rw [hh b (by omega)]
    exact hfr.same b hb' hno
theorem leaves_marksG {Φ : Cx → Value → Prop} {fn : Func} {F : Fence} {n : Nat} {c0 : Cx} {s : St} {tmps : Array Value} {R : Ending → World → Prop} (h : ∀ d, Good d s.L → (∀ i, Rel d (s.t i) (tmps.getD i undef)) → ∃ v, (results fn tmps).run P d.w = .ok v d.w ∧ Φ d v)
    (hR : ∀ v d, Good d s.L → Fr c0 d → Φ d v → R (.returned v) d.w) : ∀ (ds : List Deferred) (rs : List Nat) (d : Cx), Good d s.L → (∀ i, Rel d (s.t i) (tmps.getD i undef)) → Fr c0 d → Df (some c0.w.heap.size) d ds rs → LeavesInM F n P fn tmps R ds .returning d.w
  | [], rs, d, hg, ht, hf, hd => by
    obtain ⟨v, hrun, hv⟩ := h d hg ht
    exact ⟨v, hrun, hR v d hg hf hv⟩
  | x :: ds, rs, d, hg, ht, hf, hd => by
    cases hd with
    | @cons _ _ r rs htg hh hb ho hk hn hd =>
    obtain ⟨m, hm, hb⟩ := hb
    cases hm
    obtain ⟨g1, g2, g3⟩ := mark_step hg ho hk hb hf (.deferred none)
    refine ⟨by simp, .inl ⟨r, _, htg, run_takeDeferred hh, ?_⟩⟩
    refine leaves_marksG h hR ds rs _ g1 (fun i => g2 _ _ (ht i)) g3 ?_
    clear g1 g2 g3 htg hh
    induction hd with
    | nil => exact .nil
    | @cons y ys q qs ht' hh' hb' ho' hk' hn' _ ih =>
      have hqr : q ≠ r := fun he => hn (by simp [he])
      exact .cons ht' (by show (d.w.putObj r _).heap[q]? = _; rw [World.putObj_heap_other hqr]; exact hh') hb' ho' hk' hn' (ih fun h => hn (by simp [h]))

theorem leaves_marksP {Φ : Cx → Value → Prop} {fn : Func} {F : Fence} {n : Nat} {c0 : Cx} {s : St} {G : List Value} {tmps : Array Value} {R : Ending → World → Prop} (h : ∀ d, Good d s.L → (∀ i, Rel d (s.t i) (tmps.getD i undef)) → ∃ v, (results fn tmps).run P d.w = .ok v d.w ∧ Φ d v)
    (hR : ∀ v d, Good d s.L → F2 (Rel d) s.g G → Fr c0 d → Φ d v → R (.returned v) d.w) : ∀ (ds : List Deferred) (rs : List Nat) (d : Cx), Good d s.L → F2 (Rel d) s.g G → (∀ i, Rel d (s.t i) (tmps.getD i undef)) → Fr c0 d → Df (some c0.w.heap.size) d ds rs → LeavesInM F n P fn tmps R ds .returning d.w
  | [], rs, d, hg, hh, ht, hf, hd => by
    obtain ⟨v, hrun, hv⟩ := h d hg ht
    exact ⟨v, hrun, hR v d hg hh hf hv⟩
  | x :: ds, rs, d, hg, hh', ht, hf, hd => by
    cases hd with
    | @cons _ _ r rs htg hh hb ho hk hn hd =>
    obtain ⟨m, hm, hb⟩ := hb
    cases hm
    obtain ⟨g1, g2, g3⟩ := mark_step hg ho hk hb hf (.deferred none)
    refine ⟨by simp, .inl ⟨r, _, htg, run_takeDeferred hh, ?_⟩⟩
    refine leaves_marksP h hR ds rs _ g1 (hh'.imp fun a v _ => g2 a v) (fun i => g2 _ _ (ht i)) g3 ?_
    clear g1 g2 g3 htg hh
    induction hd with
    | nil => exact .nil
    | @cons y ys q qs ht' hh' hb' ho' hk' hn' _ ih =>
      have hqr : q ≠ r := fun he => hn (by simp [he])
      exact .cons ht' (by show (d.w.putObj r _).heap[q]? = _; rw [World.putObj_heap_other hqr]; exact hh') hb' ho' hk' hn' (ih fun h => hn (by simp [h]))
theorem leaves_marks (hT : TyOk P Γ) {fn : Func} {F : Fence} {n : Nat} {c0 : Cx} {s : St} {tmps : Array Value} {r : AV} {R : Ending → World → Prop} (h : resAll Γ s fn.results.toList fun vs => pur s.L (fun _ => true) 8 (resV vs) = r)
    (hR : ∀ v d, Good d s.L → Fr c0 d → R0 d.w (okF d (fun _ => true)) r v → R (.returned v) d.w) (ds : List Deferred) (rs : List Nat) (d : Cx) (hg : Good d s.L) (ht : ∀ i, Rel d (s.t i) (tmps.getD i undef)) (hf : Fr c0 d) (hd : Df (some c0.w.heap.size) d ds rs) : LeavesInM F n P fn tmps R ds .returning d.w :=
  leaves_marksG (Φ := fun d v => R0 d.w (okF d (fun _ => true)) r v) (fun d hg ht => results_sound hT hg ht h) hR ds rs d hg ht hf hd

theorem contract (hT : TyOk P Γ) {D : List Oper → St → (St → Prop) → Prop} {R : Operand → Array Tmp → Code → Code → (Exit → St → Prop) → St → Prop} {f : FuncId} {fn : Func} {code : Code} {args : List AV} {r : AV} (hf : P.funcs[f]? = some fn) (hb : fn.body = some code) (hn : (fn.name == "runtime.NumGoroutine") = false)
    (hnt : args.length ≤ fn.ntmps) (hD : ∀ T base G, Stable T → DOk P T base G none 0 D) (hR : ∀ T m G, Stable T → StE T (some m) → (∀ y c, T y c → m ≤ c.w.heap.size) → ROk P T (some m) G none 0 R) (h : vcC P Γ noY D R code (post Γ fn.results.toList r) (st0 args fn.ntmps)) : C P f args r := by
  refine ⟨fun as w => by have hn' : ¬ fn.name = "runtime.NumGoroutine" := (by simpa using hn); simp [callFunc, hf, hn', hb], fun c vs hg hv => ?_⟩
  refine callsIn_of_wp_marks hf hb trivial ?_
  have hst : Stable (fun _ d => Fr c d) := fun _ _ _ h1 h2 => h2.trans h1
  have hse : StE (fun _ d => Fr c d) (some c.w.heap.size) := fun _ d d' he hf => by
    have hown : ∀ b, d'.own b → d.own b := fun b ⟨i, e, hi, hn, hb⟩ => ⟨i, e, by rw [← he.μ]; exact hi, hn, hb⟩
    exact ⟨he.os.trans hf.os, he.tape.trans hf.tape, he.output.trans hf.output, Nat.le_trans hf.size he.size, fun b hb hno => by
      rw [he.same b (Nat.lt_of_lt_of_le hb hf.size) (.inl ⟨_, rfl, hb⟩), hf.same b hb hno], fun b hb => hf.own b (hown b hb), fun b hb => hf.ok b (by rw [← he.ok]; exact hb), fun b hb => by rw [he.ok]; exact hf.mono b hb, he.yl.trans hf.yl, Nat.le_trans hf.drn he.drn⟩
  have hl := hv.length
  have hs : Sim (fun _ d => Fr c d) (some c.w.heap.size) [] (st0 args fn.ntmps) c { tmps := vs.toArray ++ Array.replicate (fn.ntmps - vs.toArray.size) undef, defers := [] } := by
    refine ⟨by simp [st0]; omega, fun i => ?_, ⟨fun i hi => by simp [st0, Blk.alive] at hi, fun i e he => ?_, hg.inj, hg.okd⟩, .nil, ⟨[], .nil⟩, Fr.refl c⟩
    · show Rel c (arg args i) _
      unfold arg
      rw [Array.getD_eq_getD_getElem?]
      cases ha : args[i]? with
      | some v =>
        obtain ⟨u, hu, hr⟩ := hv.get i ha
        have hlt : i < vs.length := (List.getElem?_eq_some_iff.1 hu).1
        rw [Array.getElem?_append_left (by simpa using hlt)]
        simp only [List.getElem?_toArray, hu, Option.getD_some]
        exact hr
      | none =>
        have hge := List.getElem?_eq_none_iff.1 ha
        rw [Array.getElem?_append_right (by simp; omega), Array.getElem?_replicate]
        have : ∀ p : Prop, [Decidable p] → (if p then some undef else none).getD undef = undef := fun p _ => by split <;> rfl
        rw [this]
        exact .pure .und
    · have := hg.dom i e he
      simp [lk, Blk.alive] at this
  refine vcC_sound (ρ := none) hT hst (noY_ok _ _ _ _ _ _) (hD _ _ _ hst) (hR _ _ _ hst hse fun _ _ hf => hf.size) code _ c _ _ _ h hs fun e s' d a' hk hs' => ?_
  obtain ⟨he, hres⟩ := post_eq _ _ _ _ _ hk
  obtain ⟨rs, hdf⟩ := hs'.df
  have key : LeavesInM Fence.wide 0 P fn a'.tmps (fun e w' => ∃ v d, d.w = w' ∧ e = .returned v ∧ Fr c d ∧ Good d (lk []) ∧ Rel d r v ∧ ∀ i, i < ([] : List Blk).length → (lk [] i).alive = true → d.μ i = c.μ i) a'.defers .returning d.w := by
    refine leaves_marks hT (c0 := c) hres (fun v d hgd hfd hrv => ?_) a'.defers rs d hs'.good hs'.tm hs'.tt hdf
    refine ⟨v, ⟨d.w, okF d (fun _ => true), fun _ => none, d.yl⟩, rfl, rfl, ⟨hfd.os, hfd.tape, hfd.output, hfd.size, hfd.same, fun b ⟨i, e, he, _⟩ => (by cases he), fun b hb => ?_, fun b hb => .inl (hfd.mono b hb), hfd.yl, hfd.drn⟩, ?_, .pure hrv, fun i hi => by simp at hi⟩
    · rcases hb with hb | ⟨i, e, _, he, hn, hbe⟩
      · exact hfd.ok b hb
      · exact .inr (hfd.own b ⟨i, e, he, hn, hbe⟩)
    · exact good_nil (fun b hb => hb.elim (fun h => (hgd.okd b h).1) fun ⟨i, e, _, he, hn, hbe⟩ => hgd.lt ⟨i, e, he, hn, hbe⟩) fun _ => rfl
  rcases he with rfl | rfl
  · exact key
  · exact key
/-- The body's end is a row of its own making. -/
def rowEnd (Γ : Nat → Option TI) (rs : List ResultVar) (ty sz : Nat) (xs : List (List AV)) (s : St) : Prop := ∃ s', Wk s s' ∧ resAll Γ s' rs fun vs => ∃ b, vs = [.rowf b] ∧ s'.L b = .rows ty sz xs
def postR (Γ : Nat → Option TI) (rs : List ResultVar) (ty sz : Nat) (xs : List (List AV)) : Exit → St → Prop
  | .normal, s => rowEnd Γ rs ty sz xs s
  | .ret, s => rowEnd Γ rs ty sz xs s
  | _, _ => False
theorem postR_eq (Γ : Nat → Option TI) (rs : List ResultVar) (ty sz : Nat) (xs : List (List AV)) (e : Exit) (s : St) (h : postR Γ rs ty sz xs e s) : (e = .normal ∨ e = .ret) ∧ rowEnd Γ rs ty sz xs s := by
  cases e <;> first | exact ⟨.inl rfl, h⟩ | exact ⟨.inr rfl, h⟩ | exact h.elim
theorem contractR (hT : TyOk P Γ) {D : List Oper → St → (St → Prop) → Prop} {R : Operand → Array Tmp → Code → Code → (Exit → St → Prop) → St → Prop} {f : FuncId} {fn : Func} {code : Code} {args : List AV} {ty sz : Nat} {xs : List (List AV)} (hf : P.funcs[f]? = some fn) (hb : fn.body = some code) (hn : (fn.name == "runtime.NumGoroutine") = false)
    (hnt : args.length ≤ fn.ntmps) (hD : ∀ T base G, Stable T → DOk P T base G none 0 D) (hR : ∀ T m G, Stable T → StE T (some m) → (∀ y c, T y c → m ≤ c.w.heap.size) → ROk P T (some m) G none 0 R) (h : vcC P Γ noY D R code (postR Γ fn.results.toList ty sz xs) (st0 args fn.ntmps)) : CR P f args ty sz xs := by
  refine ⟨fun as w => by have hn' : ¬ fn.name = "runtime.NumGoroutine" := (by simpa using hn); simp [callFunc, hf, hn', hb], fun c vs hg hv => ?_⟩
  refine callsIn_of_wp_marks hf hb trivial ?_
  have hst : Stable (fun _ d => Fr c d) := fun _ _ _ h1 h2 => h2.trans h1
  have hse : StE (fun _ d => Fr c d) (some c.w.heap.size) := fun _ d d' he hf => by
    have hown : ∀ b, d'.own b → d.own b := fun b ⟨i, e, hi, hn, hb⟩ => ⟨i, e, by rw [← he.μ]; exact hi, hn, hb⟩
    exact ⟨he.os.trans hf.os, he.tape.trans hf.tape, he.output.trans hf.output, Nat.le_trans hf.size he.size, fun b hb hno => by
      rw [he.same b (Nat.lt_of_lt_of_le hb hf.size) (.inl ⟨_, rfl, hb⟩), hf.same b hb hno], fun b hb => hf.own b (hown b hb), fun b hb => hf.ok b (by rw [← he.ok]; exact hb), fun b hb => by rw [he.ok]; exact hf.mono b hb, he.yl.trans hf.yl, Nat.le_trans hf.drn he.drn⟩
  have hl := hv.length
  have hs : Sim (fun _ d => Fr c d) (some c.w.heap.size) [] (st0 args fn.ntmps) c { tmps := vs.toArray ++ Array.replicate (fn.ntmps - vs.toArray.size) undef, defers := [] } := by
    refine ⟨by simp [st0]; omega, fun i => ?_, ⟨fun i hi => by simp [st0, Blk.alive] at hi, fun i e he => ?_, hg.inj, hg.okd⟩, .nil, ⟨[], .nil⟩, Fr.refl c⟩
    · show Rel c (arg args i) _
      unfold arg
      rw [Array.getD_eq_getD_getElem?]
      cases ha : args[i]? with
      | some v =>
        obtain ⟨u, hu, hr⟩ := hv.get i ha
        have hlt : i < vs.length := (List.getElem?_eq_some_iff.1 hu).1
        rw [Array.getElem?_append_left (by simpa using hlt)]
        simp only [List.getElem?_toArray, hu, Option.getD_some]
        exact hr
      | none =>
        have hge := List.getElem?_eq_none_iff.1 ha
        rw [Array.getElem?_append_right (by simp; omega), Array.getElem?_replicate]
        have : ∀ p : Prop, [Decidable p] → (if p then some undef else none).getD undef = undef := fun p _ => by split <;> rfl
        rw [this]
        exact .pure .und
    · have := hg.dom i e he
      simp [lk, Blk.alive] at this
  refine vcC_sound (ρ := none) hT hst (noY_ok _ _ _ _ _ _) (hD _ _ _ hst) (hR _ _ _ hst hse fun _ _ hf => hf.size) code _ c _ _ _ h hs fun e s' d a' hk hs' => ?_
  obtain ⟨he, s1, hwk, hres⟩ := postR_eq _ _ _ _ _ _ _ hk
  obtain ⟨d1, hd1, hf1, hs1⟩ := hwk.2 _ _ _ hst d a' hs'
  obtain ⟨rs, hdf⟩ := hs1.df
  have key : LeavesInM Fence.wide 0 P fn a'.tmps (fun e w' => ∃ v d, d.w = w' ∧ e = .returned v ∧ Fr c d ∧ Good d (lk [.rows ty sz xs]) ∧ Rel d (.rowf 0) v ∧ ∀ i, i < ([] : List Blk).length → (lk [.rows ty sz xs] i).alive = true → d.μ i = c.μ i) a'.defers .returning d1.w := by
    refine leaves_marksG (c0 := c) (s := s1) (Φ := fun d v => ∃ b, Rel d (.rowf b) v ∧ s1.L b = .rows ty sz xs) (fun d hg ht => ?_) (fun v d hgd hfd hrv => ?_) a'.defers rs d1 hs1.good hs1.tm hs1.tt hdf
    · obtain ⟨as, vs, hk, h2, hrun⟩ := resAll_sound hT hg ht fn.results.toList hres
      obtain ⟨b, rfl, hb⟩ := hk
      cases h2 with
      | cons hr ht' =>
      cases ht'
      refine ⟨_, ?_, b, hr, hb⟩
      simp only [results_eq, Array.mapM_eq_mapM_toList, Sem.run_bind, Sem.run_map]
      rw [hrun]
      rfl
    · obtain ⟨b, hr, hb⟩ := hrv
      obtain ⟨e0, he0, rfl⟩ := hr.rowf_inv
      obtain ⟨e1, he1, hB⟩ := hgd.blk b (by rw [hb]; rfl)
      rw [he0] at he1; cases he1
      rw [hb] at hB
      have hown : ∀ x, (⟨d.w, d.ok, fun i => match i with | 0 => some e0 | _ + 1 => none, d.yl⟩ : Cx).own x → d.own x := fun x ⟨i, e, hi, hn, hx⟩ => by
        cases i with
        | zero => cases hi; exact ⟨b, _, he0, hn, hx⟩
        | succ i => cases hi
      refine ⟨_, ⟨d.w, d.ok, fun i => match i with | 0 => some e0 | _ + 1 => none, d.yl⟩, rfl, rfl, ⟨hfd.os, hfd.tape, hfd.output, hfd.size, hfd.same, fun x hx => hfd.own x (hown x hx), hfd.ok, hfd.mono, hfd.yl, hfd.drn⟩, ⟨fun i hi => ?_, fun i e he => ?_, fun i j e e' he he' _ _ _ => ?_, fun x hx => ⟨(hgd.okd x hx).1, fun ho => (hgd.okd x hx).2 (hown x ho)⟩⟩, .rowf (e := e0) rfl, fun i hi => by simp at hi⟩
      · cases i with
        | zero =>
          refine ⟨e0, rfl, ?_⟩
          show BlkRel _ (.rows ty sz xs) e0
          cases hB with
          | rows vs h1 h2 hs hn hz h0 h3 => exact .rows vs h1 h2 hs hn hz h0 h3
        | succ i => simp [lk, Blk.alive] at hi
      · cases i with
        | zero => rfl
        | succ i => cases he
      · cases i with
        | zero => cases j with
          | zero => rfl
          | succ j => cases he'
        | succ i => cases he
  rw [hd1] at key
  rcases he with rfl | rfl
  · exact key
  · exact key
/-- Where the blocks that a function is handed lie, kept for the end. -/
def pins (es : List Ent) : List AV := (es.zipIdx 0).map fun p => .gst p.2 p.1
def st0E (args : List AV) (nt : Nat) (L0 : List Blk) (g : List AV) : St := ⟨arg args, lk L0, nt, L0.length, g, none⟩
/-- The body's end, where blocks are handed back. -/
def efEnd (Γ : Nat → Option TI) (rs : List ResultVar) (r : AV) (L1 : List Blk) (g : List AV) (s : St) : Prop := ∃ s', Wk s s' ∧ s'.L = lk L1 ∧ s'.g = g ∧ resAll Γ s' rs fun vs => resV vs = r
def postE (Γ : Nat → Option TI) (rs : List ResultVar) (r : AV) (L1 : List Blk) (g : List AV) : Exit → St → Prop
  | .normal, s => efEnd Γ rs r L1 g s
  | .ret, s => efEnd Γ rs r L1 g s
  | _, _ => False
theorem postE_eq (Γ : Nat → Option TI) (rs : List ResultVar) (r : AV) (L1 : List Blk) (g : List AV) (e : Exit) (s : St) (h : postE Γ rs r L1 g e s) : (e = .normal ∨ e = .ret) ∧ efEnd Γ rs r L1 g s := by
  cases e <;> first | exact ⟨.inl rfl, h⟩ | exact ⟨.inr rfl, h⟩ | exact h.elim
theorem ents_of {c : Cx} (L0 : List Blk) (hg : Good c (lk L0)) (hal : L0.all Blk.alive = true) : ∃ es : List Ent, es.length = L0.length ∧ ∀ (i : Nat) (e : Ent), es[i]? = some e → c.μ i = some e := by
  have hone : ∀ i, i < L0.length → ∃ e, c.μ i = some e := fun i hi => by
    have : (lk L0 i).alive = true := by
      unfold lk
      rw [List.getElem?_eq_getElem hi]
      exact List.all_eq_true.1 hal _ (List.getElem_mem _)
    obtain ⟨e, he, _⟩ := hg.blk i this
    exact ⟨e, he⟩
  have : ∀ n, n ≤ L0.length → ∃ es : List Ent, es.length = n ∧ ∀ (i : Nat) (e : Ent), es[i]? = some e → c.μ i = some e := by
    intro n
    induction n with
    | zero => exact fun _ => ⟨[], rfl, fun i e h => by simp at h⟩
    | succ n ih =>
      intro hn
      obtain ⟨es, hl, he⟩ := ih (by omega)
      obtain ⟨x, hx⟩ := hone n (by omega)
      refine ⟨es ++ [x], by simp [hl], fun i e h => ?_⟩
      by_cases hi : i < n
      · rw [List.getElem?_append_left (by omega)] at h
        exact he i e h
      · rw [List.getElem?_append_right (by omega)] at h
        by_cases hin : i = n
        · subst hin
          rw [hl, Nat.sub_self] at h
          simp at h
          subst h
          exact hx
        · rw [List.getElem?_eq_none (by simp; omega)] at h
          cases h
  exact this _ (Nat.le_refl _)
theorem contractE (hT : TyOk P Γ) {D : List Oper → St → (St → Prop) → Prop} {R : Operand → Array Tmp → Code → Code → (Exit → St → Prop) → St → Prop} {f : FuncId} {fn : Func} {code : Code} {args : List AV} {L0 L1 : List Blk} {r : AV} (hf : P.funcs[f]? = some fn) (hb : fn.body = some code) (hn : (fn.name == "runtime.NumGoroutine") = false)
    (hnt : args.length ≤ fn.ntmps) (hal : L0.all Blk.alive = true) (hlen : L1.length = L0.length) (hD : ∀ T base G, Stable T → DOk P T base G none 0 D) (hR : ∀ T m G, Stable T → StE T (some m) → (∀ y c, T y c → m ≤ c.w.heap.size) → ROk P T (some m) G none 0 R)
    (h : ∀ es : List Ent, es.length = L0.length → vcC P Γ noY D R code (postE Γ fn.results.toList r L1 (pins es)) (st0E args fn.ntmps L0 (pins es))) : CE P f args L0 r L1 := by
  refine ⟨fun as w => by have hn' : ¬ fn.name = "runtime.NumGoroutine" := (by simpa using hn); simp [callFunc, hf, hn', hb], fun c vs hg hv => ?_⟩
  refine callsIn_of_wp_marks hf hb trivial ?_
  obtain ⟨es, hel, hes⟩ := ents_of L0 hg hal
  have hst : Stable (fun _ d => Fr c d) := fun _ _ _ h1 h2 => h2.trans h1
  have hse : StE (fun _ d => Fr c d) (some c.w.heap.size) := fun _ d d' he hf => by
    have hown : ∀ b, d'.own b → d.own b := fun b ⟨i, e, hi, hn, hb⟩ => ⟨i, e, by rw [← he.μ]; exact hi, hn, hb⟩
    exact ⟨he.os.trans hf.os, he.tape.trans hf.tape, he.output.trans hf.output, Nat.le_trans hf.size he.size, fun b hb hno => by
      rw [he.same b (Nat.lt_of_lt_of_le hb hf.size) (.inl ⟨_, rfl, hb⟩), hf.same b hb hno], fun b hb => hf.own b (hown b hb), fun b hb => hf.ok b (by rw [← he.ok]; exact hb), fun b hb => by rw [he.ok]; exact hf.mono b hb, he.yl.trans hf.yl, Nat.le_trans hf.drn he.drn⟩
  have hl := hv.length
  have hpl : (pins es).length = es.length := by simp [pins]
  have hpg : ∀ (i : Nat) (a : AV), (pins es)[i]? = some a → ∃ e, es[i]? = some e ∧ a = .gst i e := fun i a h => by
    unfold pins at h
    obtain ⟨p, hp, rfl⟩ := get_map h
    rw [List.getElem?_zipIdx] at hp
    cases he : es[i]? with
    | none => rw [he] at hp; cases hp
    | some e => rw [he] at hp; simp at hp; subst hp; exact ⟨e, rfl, rfl⟩
  have hs : Sim (fun _ d => Fr c d) (some c.w.heap.size) (List.replicate es.length undef) (st0E args fn.ntmps L0 (pins es)) c { tmps := vs.toArray ++ Array.replicate (fn.ntmps - vs.toArray.size) undef, defers := [] } := by
    refine ⟨by simp [st0E]; omega, fun i => ?_, hg, F2.of_get (by simp [st0E, hpl]) fun i a b ha hb => ?_, ⟨[], .nil⟩, Fr.refl c⟩
    · show Rel c (arg args i) _
      unfold arg
      rw [Array.getD_eq_getD_getElem?]
      cases ha : args[i]? with
      | some v =>
        obtain ⟨u, hu, hr⟩ := hv.get i ha
        have hlt : i < vs.length := (List.getElem?_eq_some_iff.1 hu).1
        rw [Array.getElem?_append_left (by simpa using hlt)]
        simp only [List.getElem?_toArray, hu, Option.getD_some]
        exact hr
      | none =>
        have hge := List.getElem?_eq_none_iff.1 ha
        rw [Array.getElem?_append_right (by simp; omega), Array.getElem?_replicate]
        have : ∀ p : Prop, [Decidable p] → (if p then some undef else none).getD undef = undef := fun p _ => by split <;> rfl
        rw [this]
        exact .pure .und
    · obtain ⟨e, he, rfl⟩ := hpg i a ha
      exact .gst (hes i e he) b
  refine vcC_sound (ρ := none) hT hst (noY_ok _ _ _ _ _ _) (hD _ _ _ hst) (hR _ _ _ hst hse fun _ _ hf => hf.size) code _ c _ _ _ (h es hel) hs fun e s' d a' hk hs' => ?_
  obtain ⟨he, s1, hwk, hL1, hg1, hres⟩ := postE_eq _ _ _ _ _ _ _ hk
  obtain ⟨d1, hd1, hf1, hs1⟩ := hwk.2 _ _ _ hst d a' hs'
  obtain ⟨rs, hdf⟩ := hs1.df
  have hpin : ∀ d2 : Cx, F2 (Rel d2) s1.g (List.replicate es.length undef) → ∀ i, i < L0.length → d2.μ i = c.μ i := fun d2 h2 i hi => by
    obtain ⟨e, he⟩ : ∃ e, es[i]? = some e := ⟨_, List.getElem?_eq_getElem (by omega)⟩
    rw [hes i e he]
    rw [hg1] at h2
    have hgi : (pins es)[i]? = some (.gst i e) := by
      unfold pins
      rw [List.getElem?_map, List.getElem?_zipIdx, he]
      simp
    obtain ⟨u, hu, hr⟩ := h2.get i hgi
    cases hr with
    | pure h => cases h
    | gst h v => exact h
  have key : LeavesInM Fence.wide 0 P fn a'.tmps (fun e w' => ∃ v d, d.w = w' ∧ e = .returned v ∧ Fr c d ∧ Good d (lk L1) ∧ Rel d r v ∧ ∀ i, i < L0.length → (lk L1 i).alive = true → d.μ i = c.μ i) a'.defers .returning d1.w := by
    refine leaves_marksP (c0 := c) (s := s1) (G := List.replicate es.length undef) (Φ := fun d v => Rel d r v) (fun d hg ht => ?_) (fun v d hgd hgh hfd hrv => ?_) a'.defers rs d1 hs1.good hs1.gh hs1.tm hs1.tt hdf
    · obtain ⟨as, vs, hk, h2, hrun⟩ := resAll_sound hT hg ht fn.results.toList hres
      have hr : Rel d (resV as) (if h : vs.toArray.size = 1 then vs.toArray[0] else .tuple vs.toArray) := by
        rcases vs with _ | ⟨v, _ | ⟨v', vs⟩⟩
        · cases h2; exact .tup (cs := []) (vs := []) rfl fun i a v h => by simp at h
        · cases h2 with
          | cons hr ht => cases ht; simpa [resV] using hr
        · cases h2 with
          | cons hr ht => cases ht with
            | cons hr' ht' =>
              rw [dif_neg (by simp)]
              have h3 := F2.cons hr (F2.cons hr' ht')
              exact .tup h3.length fun i a v ha hv => by
                obtain ⟨u, hu, hr⟩ := h3.get i ha
                rw [hu] at hv; cases hv
                exact hr
      refine ⟨_, ?_, hk ▸ hr⟩
      simp only [results_eq, Array.mapM_eq_mapM_toList, Sem.run_bind, Sem.run_map]
      rw [hrun]
      rfl
    · rw [hL1] at hgd
      exact ⟨v, d, rfl, rfl, hfd, hgd, hrv, fun i hi _ => hpin d hgh i hi⟩
  rw [hd1] at key
  rcases he with rfl | rfl
  · exact key
  · exact key
end
end Go.Proofs.Ytcmciimogcfakaa

/- Regions that draw their order: operations that only yield values. -/
set_option linter.unusedVariables false
set_option linter.unusedSimpArgs false
namespace Go.Proofs.Ytcmciimogcfakaa
open Go Go.RowKit

section
variable {P : Program} {Γ : Nat → Option TI} {np : Nat} {o : Oper} {ρ ρ' : Operand → AV} {L : Nat → Blk} {j : Nat} {k : Eff → Prop}
theorem bldL_congr {fs : List (Nat × Nat)} {k : List AV → Prop} : ∀ (ps : List (Nat × Operand)) (cs : List AV), (∀ p ∈ ps, ρ' p.2 = ρ p.2) → bldL fs ρ' ps cs k = bldL fs ρ ps cs k
  | [], cs, _ => rfl
  | (f, x) :: ps, cs, h => by
    have h1 := h (f, x) (by simp)
    simp only at h1
    simp only [bldL, h1]
    have ih := fun cs => bldL_congr (fs := fs) (k := k) ps cs fun p hp => h p (by simp [hp])
    simp only [ih]
theorem bldS_congr {z : List AV} {k : List (List AV) → Prop} : ∀ (ps : List (Nat × Operand)) (xs : List (List AV)), (∀ p ∈ ps, ρ' p.2 = ρ p.2) → bldS z ρ' ps xs k = bldS z ρ ps xs k
  | [], xs, _ => rfl
  | (f, x) :: ps, xs, h => by
    have h1 := h (f, x) (by simp)
    simp only at h1
    simp only [bldS, h1]
    have ih := fun xs => bldS_congr (z := z) (k := k) ps xs fun p hp => h p (by simp [hp])
    simp only [ih]
theorem map_congr {l : List Operand} (h : ∀ x ∈ l, ρ' x = ρ x) : l.map ρ' = l.map ρ := List.map_congr_left h
theorem opt_congr {l : Option Operand} (h : ∀ x ∈ l.toArray, ρ' x = ρ x) : l.map ρ' = l.map ρ := by
  cases l with
  | none => rfl
  | some x => rw [Option.map_some, Option.map_some, h x (by simp)]
theorem vcE_congr (h : ∀ x ∈ o.op.operands, ρ' x = ρ x) : vcE P Γ np o ρ' L j k = vcE P Γ np o ρ L j k := by
  cases ho : o.op with
  | move x => have h1 := h x (by simp [ho, Op.operands]); simp only [vcE, ho, h1]
  | assign x => have h1 := h x (by simp [ho, Op.operands]); simp only [vcE, ho, h1]
  | pick x y z => have h1 := h x (by simp [ho, Op.operands]); have h2 := h y (by simp [ho, Op.operands]); have h3 := h z (by simp [ho, Op.operands]); simp only [vcE, ho, h1, h2, h3]
  | alloc t => simp only [vcE, ho]
  | box t x => have h1 := h x (by simp [ho, Op.operands]); simp only [vcE, ho, h1]
  | load t x => have h1 := h x (by simp [ho, Op.operands]); simp only [vcE, ho, h1]
  | store t x y => have h1 := h x (by simp [ho, Op.operands]); have h2 := h y (by simp [ho, Op.operands]); simp only [vcE, ho, h1, h2]
  | nilCheck x => have h1 := h x (by simp [ho, Op.operands]); simp only [vcE, ho, h1]
  | binOp op t x y t' => have h1 := h x (by simp [ho, Op.operands]); have h2 := h y (by simp [ho, Op.operands]); simp only [vcE, ho, h1, h2]
  | unOp op t x => have h1 := h x (by simp [ho, Op.operands]); simp only [vcE, ho, h1]
  | convert s d x => have h1 := h x (by simp [ho, Op.operands]); simp only [vcE, ho, h1]
  | makeFunc f fs cs =>
    have h1 := map_congr (l := cs.toList) fun x hx => h x (by simp only [ho, Op.operands]; exact Array.mem_append.2 (.inr (by simpa using hx)))
    cases f <;> simp only [vcE, ho, h1]
  | makeMap t r => cases r <;> simp only [vcE, ho]
  | makeSlice t x y => have h1 := h x (by simp [ho, Op.operands]); have h2 := h y (by simp [ho, Op.operands]); simp only [vcE, ho, h1, h2]
  | buildSlice t n ps =>
    simp only [vcE, ho]
    have h1 := fun (z : List AV) (k : List (List AV) → Prop) xs => bldS_congr (ρ := ρ) (ρ' := ρ') (z := z) (k := k) ps.toList xs fun p hp => h p.2 (by simp only [ho, Op.operands]; simpa using ⟨p.1, by simpa using hp⟩)
    simp only [h1]
  | build t ps =>
    simp only [vcE, ho]
    have h1 := fun (fs : List (Nat × Nat)) (k : List AV → Prop) cs => bldL_congr (ρ := ρ) (ρ' := ρ') (fs := fs) (k := k) ps.toList cs fun p hp => h p.2 (by simp only [ho, Op.operands]; simpa using ⟨p.1, by simpa using hp⟩)
    simp only [h1]
  | fieldAddr t x f => have h1 := h x (by simp [ho, Op.operands]); simp only [vcE, ho, h1]
  | indexAddr t x y => have h1 := h x (by simp [ho, Op.operands]); have h2 := h y (by simp [ho, Op.operands]); simp only [vcE, ho, h1, h2]
  | index t x y => have h1 := h x (by simp [ho, Op.operands]); have h2 := h y (by simp [ho, Op.operands]); simp only [vcE, ho, h1, h2]
  | slice t x lo hi mx =>
    have h1 := h x (by simp [ho, Op.operands])
    have h2 := opt_congr (l := lo) fun x hx => h x (by simp only [ho, Op.operands, Array.mem_append]; exact .inl (.inl (.inr hx)))
    have h3 := opt_congr (l := hi) fun x hx => h x (by simp only [ho, Op.operands, Array.mem_append]; exact .inl (.inr hx))
    have h4 : ∀ m, mx = some m → ρ' m = ρ m := fun m hm => h m (by simp only [ho, Op.operands, Array.mem_append]; exact .inr (by simp [hm]))
    cases mx with
    | none => simp only [vcE, ho, h1, h2, h3]
    | some m => simp only [vcE, ho, h1, h2, h3, h4 m rfl]
  | lookup t m x ok => have h1 := h m (by simp [ho, Op.operands]); have h2 := h x (by simp [ho, Op.operands]); simp only [vcE, ho, h1, h2]
  | mapUpdate t m x y => have h1 := h m (by simp [ho, Op.operands]); have h2 := h x (by simp [ho, Op.operands]); have h3 := h y (by simp [ho, Op.operands]); simp only [vcE, ho, h1, h2, h3]
  | extract x n => have h1 := h x (by simp [ho, Op.operands]); simp only [vcE, ho, h1]
  | call cl =>
    have hargs : ∀ x ∈ cl.args.toList, ρ' x = ρ x := fun x hx => h x (by simp only [ho, Op.operands, Call.operands]; exact Array.mem_append.2 (.inr (by simpa using hx)))
    have h1 := map_congr hargs
    cases hcl : cl.callee with
    | value f =>
      have h2 := h f (by simp [ho, Op.operands, Call.operands, hcl])
      simp only [vcE, ho, hcl, h1, h2]
    | builtin b =>
      simp only [vcE, ho, hcl]
      generalize cl.args.toList = as at hargs
      rcases as with _ | ⟨x, _ | ⟨y, _ | ⟨z, as⟩⟩⟩
      · cases b <;> rfl
      · have e1 := hargs x (by simp)
        generalize cl.argTypes.toList = ts
        rcases ts with _ | ⟨t, ts⟩ <;> cases b <;> simp only [e1]
      · have e1 := hargs x (by simp)
        have e2 := hargs y (by simp)
        generalize cl.argTypes.toList = ts
        rcases ts with _ | ⟨t, _ | ⟨t', _ | ⟨t'', ts⟩⟩⟩ <;> cases b <;> simp only [e1, e2]
      · cases b <;> rfl
    | _ => simp only [vcE, ho, hcl]
  | _ => simp only [vcE, ho]
end

def preds (o : Oper) : List Nat := (o.after.toList.filter fun e => Region.binds .any e).map (·.on)
def uni : List Nat → List Nat → List Nat
  | [], m => m
  | a :: l, m => uni l (bif memB m a then m else a :: m)
theorem uni_mem {x : Nat} : ∀ (l m : List Nat), x ∈ uni l m → x ∈ l ∨ x ∈ m
  | [], m, h => .inr h
  | a :: l, m, h => by
    rcases uni_mem l _ h with h | h
    · exact .inl (by simp [h])
    · cases hb : memB m a with
      | true => rw [hb] at h; exact .inr h
      | false =>
        rw [hb] at h
        rcases List.mem_cons.1 h with rfl | h
        · exact .inl (by simp)
        · exact .inr h
/-- The first comes before the second in every order. -/
inductive Anc (ops : List Oper) : Nat → Nat → Prop
  | edge {i j : Nat} {o : Oper} (ho : ops[i]? = some o) (hj : j ∈ preds o) : Anc ops j i
  | step {i j m : Nat} {o : Oper} (ho : ops[i]? = some o) (hm : m ∈ preds o) (h : Anc ops j m) : Anc ops j i
def anc1 (acc : List (List Nat)) (o : Oper) : List Nat := (preds o).foldl (fun m j => uni (j :: acc.getD j []) m) []
def ancs : List Oper → List (List Nat) → List (List Nat)
  | [], acc => acc
  | o :: l, acc => ancs l (acc ++ [anc1 acc o])
theorem anc1_mem {acc : List (List Nat)} {o : Oper} {x : Nat} (h : x ∈ anc1 acc o) : ∃ j ∈ preds o, x = j ∨ x ∈ acc.getD j [] := by
  have key : ∀ (l : List Nat) (m : List Nat), x ∈ l.foldl (fun m j => uni (j :: acc.getD j []) m) m → x ∈ m ∨ ∃ j ∈ l, x = j ∨ x ∈ acc.getD j [] := by
    intro l
    induction l with
    | nil => intro m h; exact .inl h
    | cons j l ih =>
      intro m h
      rcases ih _ h with h | ⟨i, hi, h⟩
      · rcases uni_mem _ _ h with h | h
        · exact .inr ⟨j, by simp, List.mem_cons.1 h⟩
        · exact .inl h
      · exact .inr ⟨i, by simp [hi], h⟩
  rcases key _ _ h with h | h
  · cases h
  · exact h
theorem ancs_sound (all : List Oper) : ∀ (l pre : List Oper) (acc : List (List Nat)), pre ++ l = all → acc.length = pre.length → (∀ i x, x ∈ acc.getD i [] → Anc all x i) → ∀ i x, x ∈ (ancs l acc).getD i [] → Anc all x i
  | [], pre, acc, hp, hl, h => h
  | o :: l, pre, acc, hp, hl, h => by
    refine ancs_sound all l (pre ++ [o]) (acc ++ [anc1 acc o]) (by simpa using hp) (by simp [hl]) fun i x hx => ?_
    rw [List.getD_eq_getElem?_getD] at hx
    by_cases hi : i < acc.length
    · rw [List.getElem?_append_left hi, ← List.getD_eq_getElem?_getD] at hx
      exact h i x hx
    · rw [List.getElem?_append_right (by omega)] at hx
      by_cases hi' : i = acc.length
      · rw [hi', Nat.sub_self] at hx
        have ho : all[i]? = some o := by
          rw [← hp, hi', hl]
          simp
        obtain ⟨j, hj, hx⟩ := anc1_mem (by simpa using hx)
        rcases hx with rfl | hx
        · exact .edge ho hj
        · exact .step ho hj (h j x hx)
      · rw [List.getElem?_eq_none (by simp; omega)] at hx
        simp at hx
def looks (all : List Oper) (o : Oper) : List Nat := (o.op.operands.toList.filterMap fun x => match x with | .tmp t => some t | _ => none) ++ (match o.guard with | some (j, _) => (dstIn all j).toList | none => [])
def apartB (all : List Oper) (x y : Oper) : Bool :=
  (match x.dst with | some d => !memB (looks all y) d && (match y.dst with | some d' => !Nat.beq d d' | none => true) | none => true) && (match y.dst with | some d => !memB (looks all x) d | none => true)
def pairsOk (all : List Oper) (an : List (List Nat)) : List (Oper × Nat) → Bool
  | [] => true
  | (x, i) :: l => l.all (fun (y, j) => memB (an.getD j []) i || apartB all x y) && pairsOk all an l
def drawOk (all : List Oper) : Bool := pairsOk all (ancs all []) (all.zipIdx 0)
theorem pairs_get (all : List Oper) (an : List (List Nat)) : ∀ (l : List Oper) (n : Nat), pairsOk all an (l.zipIdx n) = true → ∀ i j x y, i < j → l[i]? = some x → l[j]? = some y → (memB (an.getD (n + j) []) (n + i) || apartB all x y) = true
  | [], n, _, i, j, x, y, _, hx, _ => by simp at hx
  | o :: l, n, h, i, j, x, y, hij, hx, hy => by
    simp only [List.zipIdx_cons, pairsOk, Bool.and_eq_true] at h
    obtain ⟨j, rfl⟩ : ∃ j', j = j' + 1 := ⟨j - 1, by omega⟩
    simp only [List.getElem?_cons_succ] at hy
    cases i with
    | zero =>
      simp only [List.getElem?_cons_zero, Option.some.injEq] at hx
      subst hx
      have hm : (y, n + 1 + j) ∈ l.zipIdx (n + 1) := by
        rw [List.mem_iff_getElem?]
        exact ⟨j, by rw [List.getElem?_zipIdx, hy]; rfl⟩
      have := List.all_eq_true.1 h.1 _ hm
      simp only at this
      rw [show n + (j + 1) = n + 1 + j by omega, Nat.add_zero]
      exact this
    | succ i =>
      simp only [List.getElem?_cons_succ] at hx
      have := pairs_get all an l (n + 1) h.2 i j x y (by omega) hx hy
      rw [show n + (j + 1) = n + 1 + j by omega, show n + (i + 1) = n + 1 + i by omega]
      exact this
theorem drawOk_pair {all : List Oper} (h : drawOk all = true) {i j : Nat} {x y : Oper} (hij : i < j) (hx : all[i]? = some x) (hy : all[j]? = some y) : Anc all i j ∨ apartB all x y = true := by
  have := pairs_get all _ all 0 h i j x y hij hx hy
  simp only [Nat.zero_add, Bool.or_eq_true] at this
  rcases this with h | h
  · exact .inl (ancs_sound all all [] [] rfl rfl (fun i x hx => by simp at hx) j i ((memB_iff _ _).1 h))
  · exact .inr h
theorem apartB_spec {all : List Oper} {x y : Oper} (h : apartB all x y = true) : (∀ d, x.dst = some d → d ∉ looks all y ∧ y.dst ≠ some d) ∧ ∀ d, y.dst = some d → d ∉ looks all x := by
  unfold apartB at h
  rw [Bool.and_eq_true] at h
  refine ⟨fun d hd => ?_, fun d hd => ?_⟩
  · have h := h.1
    rw [hd] at h
    simp only [Bool.and_eq_true, Bool.not_eq_true'] at h
    refine ⟨fun hm => (by rw [(memB_iff _ _).2 hm] at h; cases h.1), fun hy => ?_⟩
    have h2 := h.2
    rw [hy] at h2
    simp at h2
  · have h := h.2
    rw [hd] at h
    simp only [Bool.not_eq_true'] at h
    intro hm
    rw [(memB_iff _ _).2 hm] at h
    cases h

section
variable (P : Program) (Γ : Nat → Option TI)
def plainE (e : Eff) (v : AV) : Prop := e = { v := v, rd := e.rd }
/-- What a region asks whose order is drawn: of its operations, in the text's order, each a value. -/
noncomputable def vcD1 (all l : List Oper) : St → (St → Prop) → Prop :=
  List.rec (motive := fun _ => St → (St → Prop) → Prop) (fun s k => k s) (fun o _ ih s k => match dstOk s.nt o.dst with
    | false => False
    | true => vcG (dstIn all) o s
      (fun s => ∃ v, vcE P Γ 0 o s.ev s.L s.nx (fun e => plainE e v) ∧ ih { s with t := putT s.t o.dst v } k)
      (fun s => ih (s.skip o.dst) k)) l
theorem vcD1_cons (all : List Oper) (o : Oper) (l : List Oper) (s : St) (k : St → Prop) : vcD1 P Γ all (o :: l) s k = match dstOk s.nt o.dst with
    | false => False
    | true => vcG (dstIn all) o s
      (fun s => ∃ v, vcE P Γ 0 o s.ev s.L s.nx (fun e => plainE e v) ∧ vcD1 P Γ all l { s with t := putT s.t o.dst v } k)
      (fun s => vcD1 P Γ all l (s.skip o.dst) k) := rfl
/-- The operation, at these slots, yields v. -/
def Gives (all : List Oper) (s : St) (o : Oper) (t : Nat → AV) (v : AV) : Prop :=
  dstOk s.nt o.dst = true ∧ match o.guard with
  | none => vcE P Γ 0 o { s with t := t }.ev s.L s.nx (fun e => plainE e v)
  | some (j, w) => ∃ d, dstIn all j = some d ∧ ((t d = .bool w ∧ vcE P Γ 0 o { s with t := t }.ev s.L s.nx (fun e => plainE e v)) ∨ (t d = .bool (!w) ∧ v = .und) ∨ (t d = .und ∧ v = .und))
def Runs (all : List Oper) (s : St) : List Oper → (Nat → AV) → List AV → Prop
  | [], _, vs => vs = []
  | o :: l, t, v :: vs => Gives P Γ all s o t v ∧ Runs all s l (putT t o.dst v) vs
  | _ :: _, _, [] => False
end
def fin : List Oper → (Nat → AV) → List AV → Nat → AV
  | o :: l, t, v :: vs => fin l (putT t o.dst v) vs
  | _, t, _ => t
section
variable {P : Program} {Γ : Nat → Option TI}
theorem st_lit {s : St} {d : Nat} {v : AV} (h : s.t d = v) : ({ s with t := upd s.t d v } : St) = s := by rw [upd_self h]
theorem vcD1_runs (all : List Oper) (s0 : St) {k : St → Prop} : ∀ (l : List Oper) (s : St), { s with t := s0.t } = s0 → vcD1 P Γ all l s k → ∃ vs, Runs P Γ all s0 l s.t vs ∧ k { s0 with t := fin l s.t vs }
  | [], s, hs, h => by
    refine ⟨[], rfl, ?_⟩
    have : ({ s0 with t := fin [] s.t [] } : St) = s := by rw [← hs]; rfl
    rw [this]; exact h
  | o :: l, s, hs, h => by
    have hst : s = { s0 with t := s.t } := by rw [← hs]
    have hnt : s.nt = s0.nt := by rw [← hs]
    have hL : s.L = s0.L := by rw [← hs]
    have hnx : s.nx = s0.nx := by rw [← hs]
    rw [vcD1_cons] at h
    split at h
    · exact h.elim
    · rename_i hdo
      rw [hnt] at hdo
      have run : (∃ v, vcE P Γ 0 o s.ev s.L s.nx (fun e => plainE e v) ∧ vcD1 P Γ all l { s with t := putT s.t o.dst v } k) → (∀ v, vcE P Γ 0 o { s0 with t := s.t }.ev s0.L s0.nx (fun e => plainE e v) → Gives P Γ all s0 o s.t v) → ∃ vs, Runs P Γ all s0 (o :: l) s.t vs ∧ k { s0 with t := fin (o :: l) s.t vs } := fun ⟨v, h1, h2⟩ hg => by
        obtain ⟨vs, h3, h4⟩ := vcD1_runs all s0 l { s with t := putT s.t o.dst v } (by rw [← hs]) h2
        refine ⟨v :: vs, ⟨hg v ?_, h3⟩, h4⟩
        rw [← hst, ← hL, ← hnx]
        exact h1
      have skip : vcD1 P Γ all l (s.skip o.dst) k → Gives P Γ all s0 o s.t .und → ∃ vs, Runs P Γ all s0 (o :: l) s.t vs ∧ k { s0 with t := fin (o :: l) s.t vs } := fun h2 hg => by
        have e : s.skip o.dst = { s with t := putT s.t o.dst .und } := by cases o.dst <;> rfl
        rw [e] at h2
        obtain ⟨vs, h3, h4⟩ := vcD1_runs all s0 l { s with t := putT s.t o.dst .und } (by rw [← hs]) h2
        exact ⟨.und :: vs, ⟨hg, h3⟩, h4⟩
      unfold vcG at h
      split at h
      · rename_i hg
        refine run h fun v hv => ⟨hdo, ?_⟩
        rw [hg]
        exact hv
      · rename_i j w hg
        split at h
        · rename_i d hd
          rw [frc_eq] at h
          split at h
          · rename_i t ht
            rw [splitB_eq] at h
            split at h
            · rw [st_lit ht] at h
              exact run h fun v hv => ⟨hdo, by rw [hg]; exact ⟨d, hd, .inl ⟨ht, hv⟩⟩⟩
            · rw [st_lit ht] at h
              exact run h fun v hv => ⟨hdo, by rw [hg]; exact ⟨d, hd, .inl ⟨ht, hv⟩⟩⟩
            · rw [st_lit ht] at h
              exact skip h ⟨hdo, by rw [hg]; exact ⟨d, hd, .inr (.inl ⟨ht, rfl⟩)⟩⟩
            · rw [st_lit ht] at h
              exact skip h ⟨hdo, by rw [hg]; exact ⟨d, hd, .inr (.inl ⟨ht, rfl⟩)⟩⟩
          · rename_i ht
            exact skip h ⟨hdo, by rw [hg]; exact ⟨d, hd, .inr (.inr ⟨ht, rfl⟩)⟩⟩
          · exact h.elim
        · exact h.elim
end
def tv (ops : List Oper) (v : Nat → AV) (lst : Nat → Bool) (t0 : Nat → AV) : Nat → Nat → AV
  | 0 => t0
  | m + 1 => match lst m with
    | true => putT (tv ops v lst t0 m) (dstIn ops m) (v m)
    | false => tv ops v lst t0 m
theorem putT_ne {t : Nat → AV} {d : Option Nat} {v : AV} {x : Nat} (h : d ≠ some x) : putT t d v x = t x := by
  cases d with
  | none => rfl
  | some d => exact upd_ne _ _ fun he => h (by rw [he])
theorem tv_agree {ops : List Oper} {v : Nat → AV} {lst lst' : Nat → Bool} {t0 : Nat → AV} {x : Nat} : ∀ (m : Nat), (∀ j, j < m → dstIn ops j = some x → lst j = lst' j) → tv ops v lst t0 m x = tv ops v lst' t0 m x
  | 0, _ => rfl
  | m + 1, h => by
    have ih := tv_agree (ops := ops) (v := v) (lst := lst) (lst' := lst') (t0 := t0) (x := x) m fun j hj => h j (by omega)
    by_cases hd : dstIn ops m = some x
    · have := h m (by omega) hd
      simp only [tv, ← this]
      cases lst m with
      | false => exact ih
      | true => simp [hd, putT, upd_same]
    · simp only [tv]
      cases lst m <;> cases lst' m <;> simp only [putT_ne hd, ih]
theorem tv_stop {ops : List Oper} {v : Nat → AV} {lst : Nat → Bool} {t0 : Nat → AV} {x : Nat} {i : Nat} : ∀ (m : Nat), i ≤ m → (∀ j, i ≤ j → j < m → lst j = true → dstIn ops j ≠ some x) → tv ops v lst t0 m x = tv ops v lst t0 i x
  | 0, hi, _ => by obtain rfl : i = 0 := by omega
                   rfl
  | m + 1, hi, h => by
    by_cases him : i = m + 1
    · rw [him]
    · have ih := tv_stop (ops := ops) (v := v) (lst := lst) (t0 := t0) (x := x) m (by omega) fun j h1 h2 => h j h1 (by omega)
      rw [← ih]
      have := h m (by omega) (by omega)
      simp only [tv]
      cases hl : lst m with
      | false => rfl
      | true => exact putT_ne (this hl)
theorem tv_cons (o : Oper) (l : List Oper) (x : AV) (vs : List AV) (t : Nat → AV) : ∀ m, tv (o :: l) (fun i => (x :: vs).getD i .any) (fun _ => true) t (m + 1) = tv l (fun i => vs.getD i .any) (fun _ => true) (putT t o.dst x) m
  | 0 => rfl
  | m + 1 => by
    have ih := tv_cons o l x vs t m
    show putT (tv (o :: l) _ _ t (m + 1)) (dstIn (o :: l) (m + 1)) _ = putT (tv l _ _ _ m) (dstIn l m) _
    rw [ih]
    rfl
section
variable {P : Program} {Γ : Nat → Option TI}
theorem runs_get (all : List Oper) (s0 : St) : ∀ (l : List Oper) (t : Nat → AV) (vs : List AV), Runs P Γ all s0 l t vs → (∀ i o, l[i]? = some o → Gives P Γ all s0 o (tv l (fun i => vs.getD i .any) (fun _ => true) t i) (vs.getD i .any)) ∧ fin l t vs = tv l (fun i => vs.getD i .any) (fun _ => true) t l.length
  | [], t, vs, h => ⟨fun i o h => (by simp at h), (by cases h; rfl)⟩
  | o :: l, t, [], h => h.elim
  | o :: l, t, v :: vs, h => by
    obtain ⟨h1, h2⟩ := h
    obtain ⟨g1, g2⟩ := runs_get all s0 l _ vs h2
    refine ⟨fun i o' ho => ?_, ?_⟩
    · cases i with
      | zero => simp at ho; subst ho; exact h1
      | succ i =>
        rw [tv_cons]
        exact g1 i o' (by simpa using ho)
    · show fin l _ vs = _
      rw [List.length_cons, tv_cons]
      exact g2
theorem gives_congr {all : List Oper} {s : St} {o : Oper} {t t' : Nat → AV} {v : AV} (h : Gives P Γ all s o t v) (ht : ∀ x ∈ looks all o, t' x = t x) : Gives P Γ all s o t' v := by
  have hev : ∀ x ∈ o.op.operands, ({ s with t := t' } : St).ev x = ({ s with t := t } : St).ev x := fun x hx => by
    cases x with
    | tmp d => exact ht d (List.mem_append.2 (.inl (List.mem_filterMap.2 ⟨.tmp d, by simpa using hx, rfl⟩)))
    | _ => rfl
  refine ⟨h.1, ?_⟩
  have h2 := h.2
  cases hg : o.guard with
  | none =>
    rw [hg] at h2
    simp only at h2 ⊢
    rw [vcE_congr hev]
    exact h2
  | some p =>
    obtain ⟨j, w⟩ := p
    rw [hg] at h2
    simp only at h2 ⊢
    obtain ⟨d, hd, h2⟩ := h2
    have hx := ht d (List.mem_append.2 (.inr (by rw [hg]; simp [hd])))
    refine ⟨d, hd, ?_⟩
    rw [hx, vcE_congr hev]
    exact h2
variable {T : Option Nat → Cx → Prop} {base : Option Nat} {G : List Value} {ρ : Option Nat} {n : Nat}
theorem gives_wp (hT : TyOk P Γ) (hst : Stable T) {all : List Oper} {s : St} {o : Oper} {t : Nat → AV} {v : AV} {c : Cx} {a : Act} (h : Gives P Γ all s o t v) (hs : Sim T base G { s with t := t } c a) {K : Act → World → Prop} {Q : Exit → Act → World → Prop} {i : Nat} (ho : all[i]? = some o)
    (hK : ∀ d u, Sim T base G { s with t := putT t o.dst v } d (a.put o.dst u) → K (a.put o.dst u) d.w) : wpOpIn (Fx ρ) n P all.toArray Q i K a c.w := by
  unfold wpOpIn
  rw [List.getElem?_toArray, ho]
  simp only
  obtain ⟨hdo, h⟩ := h
  have hdo' : ∀ t, o.dst = some t → t < s.nt := fun t ht => by
    rw [ht] at hdo
    simp only [dstOk, Nat.blt_eq] at hdo
    exact hdo
  have run : vcE P Γ 0 o { s with t := t }.ev s.L s.nx (fun e => plainE e v) → o.wpIn (Fx ρ) n P a c.w K Q := fun h => by
    obtain ⟨e, he, hx⟩ := vcE_sound hT (Nat.zero_le _) hs.good hs.eval h
    refine hx ρ n K Q fun u d hd => hK d u ?_
    have := hs.ap hst hd o.dst hdo'
    unfold plainE at he
    rw [he] at this
    exact this
  have skip : v = .und → (∀ f, o.about P c.w a.eval = some f → (Fx ρ).fn f) ∧ K (a.put o.dst undef) c.w := fun hv => by
    subst hv
    refine ⟨fun f _ => Fx_fn ρ f, hK c undef ?_⟩
    have := hs.skip o.dst hdo'
    have e : ({ s with t := t } : St).skip o.dst = { s with t := putT t o.dst .und } := by cases o.dst <;> rfl
    rw [e] at this
    exact this
  cases hg : o.guard with
  | none =>
    rw [hg] at h
    rw [if_pos (by simp [Region.wanted, hg])]
    exact run h
  | some p =>
    obtain ⟨j, w⟩ := p
    rw [hg] at h
    simp only at h
    obtain ⟨d, hd, h⟩ := h
    have hr := hs.tm d
    have hy : ∀ u, a.tmps.getD d undef = u → u ≠ undef → yielded all.toArray a.tmps j = match u with | .bool b => some b | _ => none := fun u hu hne => by
      rw [yielded_of hd (by
        rcases Nat.lt_or_ge d a.tmps.size with h | h
        · exact h
        · rw [Array.getD_eq_getD_getElem?, Array.getElem?_eq_none h] at hu
          exact absurd hu.symm hne), hu]
      all_goals (cases u <;> rfl)
    change Rel c (t d) _ at hr
    rcases h with ⟨ht, h⟩ | ⟨ht, hv⟩ | ⟨ht, hv⟩
    · rw [ht] at hr
      have hb := hy _ hr.bool_inv (by simp [undef])
      rw [if_pos (by simp only [Region.wanted, hg, hb]; cases w <;> rfl)]
      exact run h
    · rw [ht] at hr
      have hb := hy _ hr.bool_inv (by simp [undef])
      rw [if_neg (by simp only [Region.wanted, hg, hb]; cases w <;> simp)]
      exact skip hv
    · rw [ht] at hr
      have hu := hr.und_inv
      have : yielded all.toArray a.tmps j = none := by
        rcases Nat.lt_or_ge d a.tmps.size with h | h
        · rw [yielded_of hd h, hu]; rfl
        · unfold yielded
          unfold dstIn at hd
          cases ho : all[j]? with
          | none => rw [ho] at hd; cases hd
          | some o' =>
            rw [ho] at hd
            simp only at hd
            simp [ho, hd, Array.getElem?_eq_none h]
      rw [if_neg (by simp [Region.wanted, hg, this])]
      exact skip hv

theorem filter_lt {p q : Nat → Bool} : ∀ (l : List Nat), (∀ x ∈ l, q x = true → p x = true) → (∃ x ∈ l, p x = true ∧ q x = false) → (l.filter q).length < (l.filter p).length
  | [], _, h => by obtain ⟨x, hx, _⟩ := h; cases hx
  | y :: l, h1, h2 => by
    have le : ∀ (l : List Nat), (∀ x ∈ l, q x = true → p x = true) → (l.filter q).length ≤ (l.filter p).length := by
      intro l
      induction l with
      | nil => intro _; simp
      | cons z l ih =>
        intro h
        have := ih fun x hx => h x (by simp [hx])
        have hz := h z (by simp)
        simp only [List.filter_cons]
        cases hq : q z with
        | true => simp only [hz hq, if_true, List.length_cons]; omega
        | false => cases p z <;> simp <;> omega
    obtain ⟨x, hx, hp, hq⟩ := h2
    have hl := le l fun x hx => h1 x (by simp [hx])
    simp only [List.filter_cons]
    rcases List.mem_cons.1 hx with rfl | hx
    · simp only [hp, hq, if_true, if_false, Bool.false_eq_true, List.length_cons]
      omega
    · have := filter_lt l (fun x hx => h1 x (by simp [hx])) ⟨x, hx, hp, hq⟩
      have hy := h1 y (by simp)
      cases hqy : q y with
      | true => simp only [hy hqy, if_true, List.length_cons]; omega
      | false => cases p y <;> simp <;> omega
theorem any_sound (hT : TyOk P Γ) (hst : Stable T) {all : List Oper} {s : St} {v : Nat → AV} {t0 : Nat → AV} (hok : drawOk all = true) (hG : ∀ i o, all[i]? = some o → Gives P Γ all s o (tv all v (fun _ => true) t0 i) (v i)) {Q : Exit → Act → World → Prop}
    (hend : ∀ c a, Sim T base G { s with t := tv all v (fun _ => true) t0 all.length } c a → Q .normal a c.w) (hback : ∀ i o, all[i]? = some o → ∀ j ∈ preds o, j < i) : ∀ (fuel : Nat) (listed : Array Bool) (c : Cx) (a : Act), listed.size = all.length →
      ((List.range all.length).filter fun i => !listed.getD i false).length ≤ fuel → (∀ i o, all[i]? = some o → listed.getD i false = true → ∀ j ∈ preds o, listed.getD j false = true) →
      Sim T base G { s with t := tv all v (fun i => listed.getD i false) t0 all.length } c a → wpAnyIn (Fx ρ) n P .any all.toArray Q fuel listed a c.w := by
  have done : ∀ (listed : Array Bool) (c : Cx) (a : Act), listed.size = all.length → (∀ i, i < all.length → listed.getD i false = true) → Sim T base G { s with t := tv all v (fun i => listed.getD i false) t0 all.length } c a → Q .normal a c.w := fun listed c a hsz hall hs => by
    refine hend c a ?_
    have : tv all v (fun _ => true) t0 all.length = tv all v (fun i => listed.getD i false) t0 all.length := by
      funext x
      exact tv_agree _ fun j hj _ => (hall j hj).symm
    rw [this]
    exact hs
  have prog : ∀ (listed : Array Bool), listed.size = all.length → Region.ready .any all.toArray listed = [] → ∀ i, i < all.length → listed.getD i false = true := fun listed hsz hr i => by
    induction i using Nat.strongRecOn with
    | _ i ih =>
      intro hi
      cases hl : listed.getD i false with
      | true => rfl
      | false =>
        exfalso
        have hmem : i ∈ Region.ready .any all.toArray listed := by
          rw [mem_ready]
          have h1 : listed.getD i true = false := by
            rw [Array.getD_eq_getD_getElem?] at hl ⊢
            rw [Array.getElem?_eq_getElem (by omega)] at hl ⊢
            exact hl
          refine ⟨h1, all[i], by simp [hi], fun e he hb => ?_⟩
          have hj : e.on ∈ preds all[i] := List.mem_map.2 ⟨e, List.mem_filter.2 ⟨by simpa using he, hb⟩, rfl⟩
          have hlt := hback i all[i] (by simp [hi]) _ hj
          exact ih _ hlt (by omega)
        rw [hr] at hmem
        cases hmem
  intro fuel
  induction fuel with
  | zero =>
    intro listed c a hsz hcnt hdc hs
    have hall : ∀ i, i < all.length → listed.getD i false = true := fun i hi => by
      cases hl : listed.getD i false with
      | true => rfl
      | false =>
        have : i ∈ (List.range all.length).filter fun i => !listed.getD i false := List.mem_filter.2 ⟨by simpa using hi, by simpa using hl⟩
        have := List.length_pos_of_mem this
        omega
    refine ⟨?_, done listed c a hsz hall hs⟩
    cases hr : Region.ready .any all.toArray listed with
    | nil => rfl
    | cons i l =>
      have hm : i ∈ Region.ready .any all.toArray listed := by rw [hr]; simp
      rw [mem_ready] at hm
      obtain ⟨h1, o, ho, _⟩ := hm
      have hi : i < all.length := by
        have := (Array.getElem?_eq_some_iff.1 ho).1
        simpa using this
      have := hall i hi
      rw [Array.getD_eq_getD_getElem?, Array.getElem?_eq_getElem (by omega)] at this h1
      simp only [Option.getD_some] at this h1
      rw [this] at h1
      cases h1
  | succ fuel ih =>
    intro listed c a hsz hcnt hdc hs
    refine ⟨fun hr => done listed c a hsz (prog listed hsz hr) hs, fun i hi => ?_⟩
    rw [mem_ready] at hi
    obtain ⟨h1, o, ho, hpre⟩ := hi
    have hil : i < all.length := by
      have := (Array.getElem?_eq_some_iff.1 ho).1
      simpa using this
    have ho' : all[i]? = some o := by simpa using ho
    have hli : listed.getD i false = false := by
      rw [Array.getD_eq_getD_getElem?, Array.getElem?_eq_getElem (by omega)] at h1 ⊢
      exact h1
    have hpre' : ∀ j ∈ preds o, listed.getD j false = true := fun j hj => by
      obtain ⟨e, he, rfl⟩ := List.mem_map.1 hj
      obtain ⟨he1, he2⟩ := List.mem_filter.1 he
      exact hpre e (by simpa using he1) he2
    have hdcA : ∀ j m, Anc all j m → listed.getD m false = true → listed.getD j false = true := fun j m h => by
      induction h with
      | edge ho hj => exact fun hm => hdc _ _ ho hm _ hj
      | step ho hm _ ih => exact fun hi => ih (hdc _ _ ho hi _ hm)
    have hancI : ∀ j, Anc all j i → listed.getD j false = true := fun j h => by
      cases h with
      | edge ho2 hj => rw [ho'] at ho2; cases ho2; exact hpre' _ hj
      | step ho2 hm h => rw [ho'] at ho2; cases ho2; exact hdcA _ _ h (hpre' _ hm)
    have hdi : dstIn all i = o.dst := by simp [dstIn, ho']
    have hdst : ∀ j x, dstIn all j = some x → ∃ o', all[j]? = some o' ∧ o'.dst = some x := fun j x h => by
      unfold dstIn at h
      cases hj : all[j]? with
      | none => rw [hj] at h; cases h
      | some o' => rw [hj] at h; exact ⟨o', rfl, h⟩
    have hlook : ∀ x ∈ looks all o, tv all v (fun i => listed.getD i false) t0 all.length x = tv all v (fun _ => true) t0 i x := fun x hx => by
      have e1 : tv all v (fun i => listed.getD i false) t0 all.length x = tv all v (fun j => decide (j < i)) t0 all.length x := tv_agree _ fun j hj hdj => by
        obtain ⟨o', ho2, hd2⟩ := hdst j x hdj
        rcases Nat.lt_trichotomy j i with hlt | rfl | hlt
        · rw [decide_eq_true hlt]
          rcases drawOk_pair hok hlt ho2 ho' with h | h
          · exact hancI j h
          · exact absurd hx ((apartB_spec h).1 x hd2).1
        · rw [decide_eq_false (by omega)]
          exact hli
        · rw [decide_eq_false (by omega)]
          rcases drawOk_pair hok hlt ho' ho2 with h | h
          · cases hl : listed.getD j false with
            | false => rfl
            | true => have := hdcA _ _ h hl; rw [hli] at this; cases this
          · exact absurd hx ((apartB_spec h).2 x hd2)
      have e2 : tv all v (fun j => decide (j < i)) t0 all.length x = tv all v (fun j => decide (j < i)) t0 i x := tv_stop _ (by omega) fun j h1 _ h2 => by
        have := of_decide_eq_true h2
        omega
      have e3 : tv all v (fun j => decide (j < i)) t0 i x = tv all v (fun _ => true) t0 i x := tv_agree _ fun j hj _ => decide_eq_true hj
      rw [e1, e2, e3]
    have hset : ∀ j, (listed.setIfInBounds i true).getD j false = if j = i then true else listed.getD j false := fun j => by
      by_cases hji : j = i
      · subst hji
        rw [if_pos rfl, Array.getD_eq_getD_getElem?, Array.getElem?_setIfInBounds, if_pos rfl, if_pos (by omega)]
        rfl
      · rw [if_neg hji, getD_set_ne false (Ne.symm hji)]
    have hnew : tv all v (fun j => (listed.setIfInBounds i true).getD j false) t0 all.length = putT (tv all v (fun j => listed.getD j false) t0 all.length) o.dst (v i) := by
      funext x
      by_cases hx : o.dst = some x
      · have e1 : tv all v (fun j => (listed.setIfInBounds i true).getD j false) t0 all.length x = tv all v (fun j => (listed.setIfInBounds i true).getD j false) t0 (i + 1) x := tv_stop _ (by omega) fun j h1 h2 h3 hdj => by
          rw [hset, if_neg (by omega)] at h3
          obtain ⟨o', ho2, hd2⟩ := hdst j x hdj
          rcases drawOk_pair hok (by omega : i < j) ho' ho2 with h | h
          · have := hdcA _ _ h h3; rw [hli] at this; cases this
          · exact ((apartB_spec h).1 x hx).2 hd2
        rw [e1]
        have e2 : (listed.setIfInBounds i true).getD i false = true := by rw [hset, if_pos rfl]
        simp only [tv, e2, hdi, hx, putT, upd_same]
      · rw [putT_ne hx]
        refine tv_agree _ fun j hj hdj => ?_
        rw [hset, if_neg]
        rintro rfl
        rw [hdi] at hdj
        exact hx hdj
    refine gives_wp hT hst (gives_congr (hG i o ho') hlook) hs ho' fun d u hs' => ?_
    rw [← hnew] at hs'
    refine ih _ d _ (by simpa using hsz) ?_ (fun m o' ho2 hm j hj => ?_) hs'
    · have := filter_lt (p := fun j => !listed.getD j false) (q := fun j => !(listed.setIfInBounds i true).getD j false) (List.range all.length) (fun x _ hx => by
        rw [hset] at hx
        split at hx
        · cases hx
        · exact hx) ⟨i, by simpa using hil, by simp [hli], by rw [hset, if_pos rfl]; rfl⟩
      omega
    · rw [hset] at hm ⊢
      split
      · rfl
      · split at hm
        · rename_i hmi
          subst hmi
          rw [ho'] at ho2; cases ho2
          exact hpre' j hj
        · exact hdc m o' ho2 hm j hj
def backB (ops : List Oper) : Bool := (ops.zipIdx 0).all fun p => (preds p.1).all fun j => Nat.blt j p.2
theorem backB_spec {ops : List Oper} (h : backB ops = true) (i : Nat) (o : Oper) (ho : ops[i]? = some o) (j : Nat) (hj : j ∈ preds o) : j < i := by
  have hm : (o, i) ∈ ops.zipIdx 0 := by
    rw [List.mem_iff_getElem?]
    exact ⟨i, by rw [List.getElem?_zipIdx, ho]; simp⟩
  have := List.all_eq_true.1 (List.all_eq_true.1 h _ hm) j hj
  simpa [Nat.blt_eq] using this
end
noncomputable def vcDq (P : Program) (Γ : Nat → Option TI) (ops : List Oper) (s : St) (k : St → Prop) : Prop := (backB ops && drawOk ops) = true ∧ vcD1 P Γ ops ops s k
theorem drawq_ok {P : Program} {Γ : Nat → Option TI} (hm : P.follows .mixedOrders = true) (hT : TyOk P Γ) {T : Option Nat → Cx → Prop} {base : Option Nat} {G : List Value} {ρ : Option Nat} {n : Nat} (hst : Stable T) : DOk P T base G ρ n (vcDq P Γ) := by
  intro ops s k c a id Q h hs hk
  obtain ⟨hb, h⟩ := h
  rw [Bool.and_eq_true] at hb
  obtain ⟨vs, hr, hk'⟩ := vcD1_runs ops s ops s rfl h
  obtain ⟨g1, g2⟩ := runs_get ops s ops s.t vs hr
  rw [g2] at hk'
  refine wpIn_region_any hm ?_
  have hdr : Sim T base G s ⟨c.w.drew, c.ok, c.μ, c.yl⟩ a := by
    obtain ⟨h1, h2, h3⟩ := hs.good.drew
    obtain ⟨rs, hdf⟩ := hs.df
    exact ⟨hs.sz, fun i => h3 _ _ (hs.tm i), h1, hs.gh.imp fun _ _ _ h => h3 _ _ h, ⟨rs, hdf.fr h2⟩, hst _ _ _ h2 hs.tt⟩
  have hrep : ∀ i, (Array.replicate ops.length false).getD i false = false := fun i => by
    rw [Array.getD_eq_getD_getElem?, Array.getElem?_replicate]
    split <;> rfl
  have := any_sound (ρ := ρ) (n := n) (Q := Q) hT hst hb.2 g1 (base := base) (G := G) (T := T) (fun c a hs => hk _ c a hk' hs) (backB_spec hb.1) ops.length (Array.replicate ops.length false) ⟨c.w.drew, c.ok, c.μ, c.yl⟩ a (by simp)
    (by
      have := List.length_filter_le (fun i => !(Array.replicate ops.length false).getD i false) (List.range ops.length)
      simpa using this) (fun i o _ h => by rw [hrep] at h; cases h) (by
      have e : tv ops (fun i => vs.getD i .any) (fun i => (Array.replicate ops.length false).getD i false) s.t ops.length = s.t := by
        have : ∀ m, tv ops (fun i => vs.getD i .any) (fun i => (Array.replicate ops.length false).getD i false) s.t m = s.t := by
          intro m
          induction m with
          | zero => rfl
          | succ m ih =>
            have e1 : tv ops (fun i => vs.getD i .any) (fun i => (Array.replicate ops.length false).getD i false) s.t (m + 1) = match (Array.replicate ops.length false).getD m false with | true => putT (tv ops (fun i => vs.getD i .any) (fun i => (Array.replicate ops.length false).getD i false) s.t m) (dstIn ops m) (vs.getD m .any) | false => tv ops (fun i => vs.getD i .any) (fun i => (Array.replicate ops.length false).getD i false) s.t m := rfl
            rw [e1, hrep]
            exact ih
        exact this _
      rw [e]
      exact hdr)
  simpa using this
end Go.Proofs.Ytcmciimogcfakaa

/- Regions that draw their order, with operations that turn memory: these come in one order. -/
set_option linter.unusedVariables false
set_option linter.unusedSimpArgs false
namespace Go.Proofs.Ytcmciimogcfakaa
open Go Go.RowKit

section
variable {P : Program} {Γ : Nat → Option TI} {T : Option Nat → Cx → Prop} {base : Option Nat} {G : List Value} {ρ : Option Nat} {n : Nat}
def DC (all : List Oper) (listed : Array Bool) : Prop := ∀ i o, all[i]? = some o → listed.getD i false = true → ∀ j ∈ preds o, listed.getD j false = true
theorem DC.anc {all : List Oper} {listed : Array Bool} (h : DC all listed) : ∀ {j m : Nat}, Anc all j m → listed.getD m false = true → listed.getD j false = true := by
  intro j m ha
  induction ha with
  | edge ho hj => exact fun hm => h _ _ ho hm _ hj
  | step ho hm _ ih => exact fun hi => ih (h _ _ ho hi _ hm)
theorem any_gen {all : List Oper} (hback : ∀ i o, all[i]? = some o → ∀ j ∈ preds o, j < i) {Q : Exit → Act → World → Prop} (Inv : Array Bool → Cx → Act → Prop)
    (hend : ∀ listed c a, (∀ i, i < all.length → listed.getD i false = true) → Inv listed c a → Q .normal a c.w)
    (hstep : ∀ listed c a i o (K : Act → World → Prop), all[i]? = some o → listed.size = all.length → listed.getD i false = false → (∀ j ∈ preds o, listed.getD j false = true) → DC all listed → Inv listed c a →
      (∀ d u, Inv (listed.setIfInBounds i true) d (a.put o.dst u) → K (a.put o.dst u) d.w) → wpOpIn (Fx ρ) n P all.toArray Q i K a c.w) : ∀ (fuel : Nat) (listed : Array Bool) (c : Cx) (a : Act), listed.size = all.length →
      ((List.range all.length).filter fun i => !listed.getD i false).length ≤ fuel → DC all listed → Inv listed c a → wpAnyIn (Fx ρ) n P .any all.toArray Q fuel listed a c.w := by
  have prog : ∀ (listed : Array Bool), listed.size = all.length → Region.ready .any all.toArray listed = [] → ∀ i, i < all.length → listed.getD i false = true := fun listed hsz hr i => by
    induction i using Nat.strongRecOn with
    | _ i ih =>
      intro hi
      cases hl : listed.getD i false with
      | true => rfl
      | false =>
        exfalso
        have hmem : i ∈ Region.ready .any all.toArray listed := by
          rw [mem_ready]
          have h1 : listed.getD i true = false := by
            rw [Array.getD_eq_getD_getElem?] at hl ⊢
            rw [Array.getElem?_eq_getElem (by omega)] at hl ⊢
            exact hl
          refine ⟨h1, all[i], by simp [hi], fun e he hb => ?_⟩
          have hj : e.on ∈ preds all[i] := List.mem_map.2 ⟨e, List.mem_filter.2 ⟨by simpa using he, hb⟩, rfl⟩
          have hlt := hback i all[i] (by simp [hi]) _ hj
          exact ih _ hlt (by omega)
        rw [hr] at hmem
        cases hmem
  intro fuel
  induction fuel with
  | zero =>
    intro listed c a hsz hcnt hdc hs
    have hall : ∀ i, i < all.length → listed.getD i false = true := fun i hi => by
      cases hl : listed.getD i false with
      | true => rfl
      | false =>
        have : i ∈ (List.range all.length).filter fun i => !listed.getD i false := List.mem_filter.2 ⟨by simpa using hi, by simpa using hl⟩
        have := List.length_pos_of_mem this
        omega
    refine ⟨?_, hend listed c a hall hs⟩
    cases hr : Region.ready .any all.toArray listed with
    | nil => rfl
    | cons i l =>
      have hm : i ∈ Region.ready .any all.toArray listed := by rw [hr]; simp
      rw [mem_ready] at hm
      obtain ⟨h1, o, ho, _⟩ := hm
      have hi : i < all.length := by
        have := (Array.getElem?_eq_some_iff.1 ho).1
        simpa using this
      have := hall i hi
      rw [Array.getD_eq_getD_getElem?, Array.getElem?_eq_getElem (by omega)] at this h1
      simp only [Option.getD_some] at this h1
      rw [this] at h1
      cases h1
  | succ fuel ih =>
    intro listed c a hsz hcnt hdc hs
    refine ⟨fun hr => hend listed c a (prog listed hsz hr) hs, fun i hi => ?_⟩
    rw [mem_ready] at hi
    obtain ⟨h1, o, ho, hpre⟩ := hi
    have hil : i < all.length := by
      have := (Array.getElem?_eq_some_iff.1 ho).1
      simpa using this
    have ho' : all[i]? = some o := by simpa using ho
    have hli : listed.getD i false = false := by
      rw [Array.getD_eq_getD_getElem?, Array.getElem?_eq_getElem (by omega)] at h1 ⊢
      exact h1
    have hpre' : ∀ j ∈ preds o, listed.getD j false = true := fun j hj => by
      obtain ⟨e, he, rfl⟩ := List.mem_map.1 hj
      obtain ⟨he1, he2⟩ := List.mem_filter.1 he
      exact hpre e (by simpa using he1) he2
    have hset : ∀ j, (listed.setIfInBounds i true).getD j false = if j = i then true else listed.getD j false := fun j => by
      by_cases hji : j = i
      · subst hji
        rw [if_pos rfl, Array.getD_eq_getD_getElem?, Array.getElem?_setIfInBounds, if_pos rfl, if_pos (by omega)]
        rfl
      · rw [if_neg hji, getD_set_ne false (Ne.symm hji)]
    refine hstep listed c a i o _ ho' hsz hli hpre' hdc hs fun d u hs' => ?_
    refine ih _ d _ (by simpa using hsz) ?_ (fun m o' ho2 hm j hj => ?_) hs'
    · have := filter_lt (p := fun j => !listed.getD j false) (q := fun j => !(listed.setIfInBounds i true).getD j false) (List.range all.length) (fun x _ hx => by
        rw [hset] at hx
        split at hx
        · cases hx
        · exact hx) ⟨i, by simpa using hil, by simp [hli], by rw [hset, if_pos rfl]; rfl⟩
      omega
    · rw [hset] at hm ⊢
      split
      · rfl
      · split at hm
        · rename_i hmi
          subst hmi
          rw [ho'] at ho2; cases ho2
          exact hpre' j hj
        · exact hdc m o' ho2 hm j hj
end

/-- Effects one behind the other. -/
def apAll : List (Option Nat × Eff) → St → St
  | [], s => s
  | p :: l, s => apAll l (s.ap p.1 p.2)
theorem apAll_snoc (l : List (Option Nat × Eff)) (p : Option Nat × Eff) (s : St) : apAll (l ++ [p]) s = (apAll l s).ap p.1 p.2 := by
  induction l generalizing s with
  | nil => rfl
  | cons q l ih => exact ih _
def F1 (L : Nat → Blk) (d : Option Nat) (E : Eff) (x : Nat) (a : AV) : AV := match d with
  | some t => bif Nat.beq x t then E.v else apA L E a
  | none => apA L E a
theorem ap_t (s : St) (t : Nat → AV) (d : Option Nat) (E : Eff) : ({ s with t := t } : St).ap d E = { s.ap d E with t := fun x => F1 s.L d E x (t x) } := by
  have : putT (apT s.L E t) d E.v = fun x => F1 s.L d E x (t x) := by
    funext x
    cases d with
    | none => exact apT_eq _ _ _ _
    | some y =>
      show upd (apT s.L E t) y E.v x = bif Nat.beq x y then E.v else apA s.L E (t x)
      unfold upd
      rw [apT_eq]
  unfold St.ap
  simp only [this]
def FA : List (Option Nat × Eff) → (Nat → Blk) → Nat → AV → AV
  | [], _, _, a => a
  | p :: l, L, x, a => FA l (apL L p.2) x (F1 L p.1 p.2 x a)
theorem apAll_t (l : List (Option Nat × Eff)) : ∀ (s : St) (t : Nat → AV), apAll l { s with t := t } = { apAll l s with t := fun x => FA l s.L x (t x) } := by
  induction l with
  | nil => exact fun s t => rfl
  | cons p l ih =>
    intro s t
    show apAll l (({ s with t := t } : St).ap p.1 p.2) = _
    rw [ap_t, ih]
    rfl

section
variable (P : Program) (Γ : Nat → Option TI)
/-- The operations that only yield values, in the text's order; those of τ are left out. -/
noncomputable def vcD3 (all : List Oper) (τ : List Nat) (l : List Oper) : Nat → St → (St → Prop) → Prop :=
  List.rec (motive := fun _ => Nat → St → (St → Prop) → Prop) (fun _ s k => k s) (fun o _ ih i s k => match memB τ i with
    | true => ih (i + 1) s k
    | false => match dstOk s.nt o.dst with
      | false => False
      | true => vcG (dstIn all) o s
        (fun s => ∃ v, vcE P Γ 0 o s.ev s.L s.nx (fun e => plainE e v) ∧ ih (i + 1) { s with t := putT s.t o.dst v } k)
        (fun s => ih (i + 1) (s.skip o.dst) k)) l
theorem vcD3_cons (all : List Oper) (τ : List Nat) (o : Oper) (l : List Oper) (i : Nat) (s : St) (k : St → Prop) : vcD3 P Γ all τ (o :: l) i s k = match memB τ i with
    | true => vcD3 P Γ all τ l (i + 1) s k
    | false => match dstOk s.nt o.dst with
      | false => False
      | true => vcG (dstIn all) o s
        (fun s => ∃ v, vcE P Γ 0 o s.ev s.L s.nx (fun e => plainE e v) ∧ vcD3 P Γ all τ l (i + 1) { s with t := putT s.t o.dst v } k)
        (fun s => vcD3 P Γ all τ l (i + 1) (s.skip o.dst) k) := rfl
/-- The operations that may still come when so many of τ have come. -/
def lateB (all : List Oper) (τ : List Nat) (c : Nat) : List Oper :=
  ((all.zipIdx 0).filter fun p => !memB τ p.2 && (τ.take c).all fun m => !memB ((ancs all []).getD m []) p.2).map (·.1)
/-- They yield what they did. -/
def reG (all : List Oper) (s : St) : List Oper → Prop
  | [] => True
  | o :: l => (match o.dst with | some d => Gives P Γ all s o s.t (s.t d) | none => False) ∧ reG all s l
/-- The operations of τ, one behind the other. -/
noncomputable def vcT (all : List Oper) (τ : List Nat) (r : List Nat) : Nat → St → (St → Prop) → Prop :=
  List.rec (motive := fun _ => Nat → St → (St → Prop) → Prop) (fun _ s k => k s) (fun m _ ih c s k => match all[m]? with
    | some o => match o.guard, dstOk s.nt o.dst with
      | none, true => ∃ E : Eff, vcE P Γ 0 o s.ev s.L s.nx (fun e => e = E) ∧ reG P Γ all (s.ap o.dst E) (lateB all τ (c + 1)) ∧ ih (c + 1) (s.ap o.dst E) k
      | _, _ => False
    | none => False) r
theorem vcT_cons (all : List Oper) (τ : List Nat) (m : Nat) (r : List Nat) (c : Nat) (s : St) (k : St → Prop) : vcT P Γ all τ (m :: r) c s k = match all[m]? with
    | some o => match o.guard, dstOk s.nt o.dst with
      | none, true => ∃ E : Eff, vcE P Γ 0 o s.ev s.L s.nx (fun e => e = E) ∧ reG P Γ all (s.ap o.dst E) (lateB all τ (c + 1)) ∧ vcT P Γ all τ r (c + 1) (s.ap o.dst E) k
      | _, _ => False
    | none => False := rfl
end
/-- Each of τ waits for the one ahead of it. -/
def chainT (an : List (List Nat)) : List Nat → Bool
  | m :: m' :: r => memB (an.getD m' []) m && chainT an (m' :: r)
  | _ => true
/-- What an operation looks at is put ahead of it in the text; no two put one slot. -/
def antiB (all : List Oper) (τ : List Nat) : Bool :=
  (all.zipIdx 0).all fun p => (all.zipIdx 0).all fun q => memB τ q.2 || (match q.1.dst with | some d => (Nat.blt q.2 p.2 || !memB (looks all p.1) d) && (memB τ p.2 || Nat.beq p.2 q.2 || (match p.1.dst with | some d' => !Nat.beq d d' | none => true)) | none => false)
def checkT (all : List Oper) (τ : List Nat) : Bool := backB all && (drawOk all && (chainT (ancs all []) τ && (antiB all τ && τ.all fun m => Nat.blt m all.length)))
noncomputable def vcDt (P : Program) (Γ : Nat → Option TI) (ops : List Oper) (s : St) (k : St → Prop) : Prop := ∃ τ : List Nat, checkT ops τ = true ∧ vcD3 P Γ ops τ ops 0 s fun s' => vcT P Γ ops τ τ 0 s' k

theorem tv_v {ops : List Oper} {v v' : Nat → AV} {lst : Nat → Bool} {t0 : Nat → AV} : ∀ (m : Nat), (∀ j, j < m → v j = v' j) → tv ops v lst t0 m = tv ops v' lst t0 m
  | 0, _ => rfl
  | m + 1, h => by
    have ih := tv_v (ops := ops) (lst := lst) (t0 := t0) m fun j hj => h j (by omega)
    simp only [tv, ih, h m (by omega)]
abbrev preB (τ : List Nat) (i : Nat) : Bool := !memB τ i
section
variable {P : Program} {Γ : Nat → Option TI}
theorem vcD3_runs (all : List Oper) (τ : List Nat) (s0 : St) {k : St → Prop} : ∀ (l : List Oper) (i : Nat) (v0 : Nat → AV), all.drop i = l → i ≤ all.length → (∀ (j : Nat) (o : Oper), j < i → all[j]? = some o → memB τ j = false → Gives P Γ all s0 o (tv all v0 (preB τ) s0.t j) (v0 j)) →
    vcD3 P Γ all τ l i { s0 with t := tv all v0 (preB τ) s0.t i } k → ∃ v : Nat → AV, (∀ (j : Nat) (o : Oper), all[j]? = some o → memB τ j = false → Gives P Γ all s0 o (tv all v (preB τ) s0.t j) (v j)) ∧ k { s0 with t := tv all v (preB τ) s0.t all.length }
  | [], i, v0, hd, hle, hG, h => by
    have hi : i = all.length := by
      have := congrArg List.length hd
      simp at this
      omega
    subst hi
    exact ⟨v0, fun j o ho => hG j o (List.getElem?_eq_some_iff.1 ho).1 ho, h⟩
  | o :: l, i, v0, hd, hle, hG, h => by
    have hil : i < all.length := by
      have := congrArg List.length hd
      simp at this
      omega
    have ho : all[i]? = some o := by
      have := congrArg (fun l => l[0]?) hd
      simpa using this
    have hd' : all.drop (i + 1) = l := by
      have := congrArg List.tail hd
      simpa using this
    rw [vcD3_cons] at h
    cases hm : memB τ i with
    | true =>
      rw [hm] at h
      refine vcD3_runs all τ s0 l (i + 1) v0 hd' hil (fun j o' hj ho' hj' => hG j o' ?_ ho' hj') ?_
      · by_cases hji : j = i
        · subst hji; rw [hm] at hj'; cases hj'
        · omega
      · have : tv all v0 (preB τ) s0.t (i + 1) = tv all v0 (preB τ) s0.t i := by
          have hpb : preB τ i = false := by simp [preB, hm]
          simp only [tv, hpb]
        rw [this]
        exact h
    | false =>
      rw [hm] at h
      simp only at h
      split at h
      · exact h.elim
      · rename_i hdo
        have hdi : dstIn all i = o.dst := by simp [dstIn, ho]
        have next : ∀ x : AV, Gives P Γ all s0 o (tv all v0 (preB τ) s0.t i) x → vcD3 P Γ all τ l (i + 1) { s0 with t := putT (tv all v0 (preB τ) s0.t i) o.dst x } k → ∃ v : Nat → AV, (∀ (j : Nat) (o : Oper), all[j]? = some o → memB τ j = false → Gives P Γ all s0 o (tv all v (preB τ) s0.t j) (v j)) ∧ k { s0 with t := tv all v (preB τ) s0.t all.length } := fun x hx h => by
          have hag : ∀ j, j < i → upd v0 i x j = v0 j := fun j hj => upd_ne _ _ (by omega)
          have e : ∀ m, m ≤ i → tv all (upd v0 i x) (preB τ) s0.t m = tv all v0 (preB τ) s0.t m := fun m hm => tv_v m fun j hj => hag j (by omega)
          refine vcD3_runs all τ s0 l (i + 1) (upd v0 i x) hd' hil (fun j o' hj ho' hj' => ?_) ?_
          · by_cases hji : j = i
            · subst hji
              rw [ho] at ho'; cases ho'
              rw [e j (Nat.le_refl _), upd_same]
              exact hx
            · rw [e j (by omega), hag j (by omega)]
              exact hG j o' (by omega) ho' hj'
          · have : tv all (upd v0 i x) (preB τ) s0.t (i + 1) = putT (tv all v0 (preB τ) s0.t i) o.dst x := by
              simp only [tv, preB, hm, Bool.not_false, e i (Nat.le_refl _), hdi, upd_same]
            rw [this]
            exact h
        unfold vcG at h
        split at h
        · rename_i hg
          obtain ⟨x, h1, h2⟩ := h
          refine next x ⟨hdo, ?_⟩ h2
          rw [hg]
          exact h1
        · rename_i j w hg
          split at h
          · rename_i d hd
            rw [frc_eq] at h
            split at h
            · rename_i t ht
              rw [splitB_eq] at h
              have ht' : tv all v0 (preB τ) s0.t i d = .bool t := ht
              split at h
              · rw [st_lit ht] at h
                obtain ⟨x, h1, h2⟩ := h
                exact next x ⟨hdo, by rw [hg]; exact ⟨d, hd, .inl ⟨ht', h1⟩⟩⟩ h2
              · rw [st_lit ht] at h
                obtain ⟨x, h1, h2⟩ := h
                exact next x ⟨hdo, by rw [hg]; exact ⟨d, hd, .inl ⟨ht', h1⟩⟩⟩ h2
              · rw [st_lit ht] at h
                refine next .und ⟨hdo, by rw [hg]; exact ⟨d, hd, .inr (.inl ⟨ht', rfl⟩)⟩⟩ ?_
                have e : ({ s0 with t := tv all v0 (preB τ) s0.t i } : St).skip o.dst = { s0 with t := putT (tv all v0 (preB τ) s0.t i) o.dst .und } := by cases o.dst <;> rfl
                rw [← e]; exact h
              · rw [st_lit ht] at h
                refine next .und ⟨hdo, by rw [hg]; exact ⟨d, hd, .inr (.inl ⟨ht', rfl⟩)⟩⟩ ?_
                have e : ({ s0 with t := tv all v0 (preB τ) s0.t i } : St).skip o.dst = { s0 with t := putT (tv all v0 (preB τ) s0.t i) o.dst .und } := by cases o.dst <;> rfl
                rw [← e]; exact h
            · rename_i ht
              have ht' : tv all v0 (preB τ) s0.t i d = .und := ht
              refine next .und ⟨hdo, by rw [hg]; exact ⟨d, hd, .inr (.inr ⟨ht', rfl⟩)⟩⟩ ?_
              have e : ({ s0 with t := tv all v0 (preB τ) s0.t i } : St).skip o.dst = { s0 with t := putT (tv all v0 (preB τ) s0.t i) o.dst .und } := by cases o.dst <;> rfl
              rw [← e]; exact h
            · exact h.elim
          · exact h.elim
/-- What the c-th of τ does. -/
def TF (P : Program) (Γ : Nat → Option TI) (all : List Oper) (τ : List Nat) (s' : St) (te : List (Option Nat × Eff)) (c : Nat) : Prop :=
  ∃ m o E, τ[c]? = some m ∧ all[m]? = some o ∧ o.guard = none ∧ dstOk s'.nt o.dst = true ∧ te[c]? = some (o.dst, E) ∧ vcE P Γ 0 o (apAll (te.take c) s').ev (apAll (te.take c) s').L (apAll (te.take c) s').nx (fun e => e = E) ∧ reG P Γ all (apAll (te.take (c + 1)) s') (lateB all τ (c + 1))
theorem apAll_nt (l : List (Option Nat × Eff)) : ∀ s : St, (apAll l s).nt = s.nt := by
  induction l with
  | nil => exact fun s => rfl
  | cons p l ih => exact fun s => ih _
theorem vcT_runs (all : List Oper) (τ : List Nat) (s' : St) {k : St → Prop} : ∀ (r : List Nat) (c : Nat) (te0 : List (Option Nat × Eff)), τ.drop c = r → te0.length = c → (∀ c', c' < c → TF P Γ all τ s' te0 c') → vcT P Γ all τ r c (apAll te0 s') k →
    ∃ te : List (Option Nat × Eff), te.length = τ.length ∧ (∀ c', c' < τ.length → TF P Γ all τ s' te c') ∧ k (apAll te s')
  | [], c, te0, hd, hl, hF, h => by
    have hc : τ.length ≤ c := by
      have := congrArg List.length hd
      simp at this
      omega
    by_cases he : τ.length = c
    · exact ⟨te0, by omega, fun c' hc' => hF c' (by omega), h⟩
    · exfalso
      obtain ⟨m, _, _, hm, _⟩ := hF τ.length (by omega)
      rw [List.getElem?_eq_none (Nat.le_refl _)] at hm
      cases hm
  | m :: r, c, te0, hd, hl, hF, h => by
    have hm : τ[c]? = some m := by
      have := congrArg (fun l => l[0]?) hd
      simpa using this
    have hd' : τ.drop (c + 1) = r := by
      have := congrArg List.tail hd
      simpa using this
    rw [vcT_cons] at h
    split at h
    · rename_i o ho
      split at h
      · rename_i hg hdo
        obtain ⟨E, h1, h2, h3⟩ := h
        have e1 : (te0 ++ [(o.dst, E)]).take c = te0 := by rw [← hl]; simp
        have e2 : (te0 ++ [(o.dst, E)]).take (c + 1) = te0 ++ [(o.dst, E)] := List.take_of_length_le (by simp [hl])
        refine vcT_runs all τ s' r (c + 1) (te0 ++ [(o.dst, E)]) hd' (by simp [hl]) (fun c' hc' => ?_) (by rw [apAll_snoc]; exact h3)
        by_cases hcc : c' = c
        · subst hcc
          refine ⟨m, o, E, hm, ho, hg, by rw [apAll_nt] at hdo; exact hdo, ?_, ?_, ?_⟩
          · rw [List.getElem?_append_right (by omega), hl]; simp
          · rw [e1]; exact h1
          · rw [e2, apAll_snoc]; exact h2
        · obtain ⟨m', o', E', g1, g2, g3, g4, g5, g6, g7⟩ := hF c' (by omega)
          refine ⟨m', o', E', g1, g2, g3, g4, ?_, ?_, ?_⟩
          · rw [List.getElem?_append_left (by omega)]; exact g5
          · rw [List.take_append_of_le_length (by omega)]; exact g6
          · rw [List.take_append_of_le_length (by omega)]; exact g7
      · exact h.elim
    · exact h.elim
theorem reG_mem {all : List Oper} {s : St} {o : Oper} : ∀ {l : List Oper}, reG P Γ all s l → o ∈ l → ∃ d, o.dst = some d ∧ Gives P Γ all s o s.t (s.t d)
  | [], _, h => by cases h
  | x :: l, hr, h => by
    rcases List.mem_cons.1 h with rfl | h
    · have := hr.1
      cases hd : o.dst with
      | none => rw [hd] at this; exact this.elim
      | some d => rw [hd] at this; exact ⟨d, rfl, this⟩
    · exact reG_mem hr.2 h
theorem lateB_mem {all : List Oper} {τ : List Nat} {c i : Nat} {o : Oper} (ho : all[i]? = some o) (hi : memB τ i = false) (hn : ∀ q m, q < c → τ[q]? = some m → ¬ Anc all i m) : o ∈ lateB all τ c := by
  unfold lateB
  refine List.mem_map.2 ⟨(o, i), List.mem_filter.2 ⟨?_, ?_⟩, rfl⟩
  · rw [List.mem_iff_getElem?]
    exact ⟨i, by rw [List.getElem?_zipIdx, ho]; simp⟩
  · simp only [hi, Bool.not_false, Bool.true_and, List.all_eq_true, Bool.not_eq_true']
    intro m hm
    obtain ⟨q, hq⟩ := List.mem_iff_getElem?.1 hm
    rw [List.getElem?_take] at hq
    split at hq
    · cases hb : memB ((ancs all []).getD m []) i with
      | false => rfl
      | true => exact absurd (ancs_sound all all [] [] rfl rfl (fun i x hx => by simp at hx) m i ((memB_iff _ _).1 hb)) (hn q m (by assumption) hq)
    · cases hq
theorem anti_at {all : List Oper} {τ : List Nat} (h : antiB all τ = true) {i j : Nat} {x y : Oper} (hx : all[i]? = some x) (hy : all[j]? = some y) (hj : memB τ j = false) : ∃ d, y.dst = some d ∧ (d ∈ looks all x → j < i) ∧ (memB τ i = false → i ≠ j → x.dst ≠ some d) := by
  have hm : ∀ {i : Nat} {x : Oper}, all[i]? = some x → (x, i) ∈ all.zipIdx 0 := fun {i x} hx => by
    rw [List.mem_iff_getElem?]
    exact ⟨i, by rw [List.getElem?_zipIdx, hx]; simp⟩
  have := List.all_eq_true.1 (List.all_eq_true.1 h _ (hm hx)) _ (hm hy)
  simp only [hj, Bool.false_or] at this
  cases hd : y.dst with
  | none => rw [hd] at this; cases this
  | some d =>
    rw [hd] at this
    simp only [Bool.and_eq_true, Bool.or_eq_true] at this
    refine ⟨d, rfl, fun hl => ?_, fun hi hne hxd => ?_⟩
    · rcases this.1 with h | h
      · simpa [Nat.blt_eq] using h
      · rw [(memB_iff _ _).2 hl] at h; cases h
    · rcases this.2 with (h | h) | h
      · rw [hi] at h; cases h
      · exact hne (Nat.eq_of_beq_eq_true h)
      · rw [hxd] at h; simp at h
variable {T : Option Nat → Cx → Prop} {base : Option Nat} {G : List Value} {ρ : Option Nat} {n : Nat}
theorem chain_anc {an : List (List Nat)} : ∀ {τ : List Nat}, chainT an τ = true → ∀ {q : Nat} {m m' : Nat}, τ[q]? = some m → τ[q + 1]? = some m' → memB (an.getD m' []) m = true
  | [], _, q, m, m', h, _ => by simp at h
  | [_], _, q, m, m', _, h => by simp at h
  | a :: b :: r, hc, q, m, m', h, h' => by
    simp only [chainT, Bool.and_eq_true] at hc
    cases q with
    | zero => simp at h h'; subst h; subst h'; exact hc.1
    | succ q => exact chain_anc hc.2 (q := q) (by simpa using h) (by simpa using h')
theorem drawt_ok (hm : P.follows .mixedOrders = true) (hT : TyOk P Γ) (hst : Stable T) : DOk P T base G ρ n (vcDt P Γ) := by
  intro ops s0 k c0 a0 id Q h hs0 hk
  obtain ⟨τ, hck, h⟩ := h
  unfold checkT at hck
  simp only [Bool.and_eq_true] at hck
  obtain ⟨hbk, hdr, hch, han, hrg⟩ := hck
  obtain ⟨v, hv, h⟩ := vcD3_runs ops τ s0 ops 0 (fun _ => .any) rfl (Nat.zero_le _) (fun j o hj => by omega) h
  obtain ⟨te, htl, hte, hend⟩ := vcT_runs ops τ _ τ 0 [] rfl rfl (fun c' hc' => by omega) h
  let tp : Array Bool → Nat → AV := fun lst => tv ops v (fun i => lst.getD i false && preB τ i) s0.t ops.length
  let tA : Nat → AV := tv ops v (preB τ) s0.t ops.length
  let sg : Array Bool → Nat → St := fun lst c => apAll (te.take c) { s0 with t := tp lst }
  let sc : Nat → St := fun c => apAll (te.take c) { s0 with t := tA }
  have hsg : ∀ lst c, sg lst c = { sc c with t := fun x => FA (te.take c) s0.L x (tp lst x) } := fun lst c => apAll_t (te.take c) ({ s0 with t := tA }) (tp lst)
  have hsc : ∀ c x, (sc c).t x = FA (te.take c) s0.L x (tA x) := fun c x => by
    show (apAll (te.take c) ({ s0 with t := tA } : St)).t x = _
    rw [apAll_t]
  have hback := backB_spec hbk
  have hdst : ∀ j x, dstIn ops j = some x → ∃ o', ops[j]? = some o' ∧ o'.dst = some x := fun j x h => by
    unfold dstIn at h
    cases hj : ops[j]? with
    | none => rw [hj] at h; cases h
    | some o' => rw [hj] at h; exact ⟨o', rfl, h⟩
  -- the slots that an operation looks at are those of the text's order
  have hlook : ∀ (lst : Array Bool) (i : Nat) (o : Oper), ops[i]? = some o → (∀ j, Anc ops j i → lst.getD j false = true) → ∀ x ∈ looks ops o, tp lst x = tA x := fun lst i o ho hanc x hx => by
    refine tv_agree _ fun j hj hdj => ?_
    obtain ⟨o', ho2, hd2⟩ := hdst j x hdj
    cases hp : memB τ j with
    | true => simp [preB, hp]
    | false =>
      obtain ⟨d, hd, h1, _⟩ := anti_at han ho ho2 hp
      rw [hd2] at hd; cases hd
      have hji := h1 hx
      rcases drawOk_pair hdr hji ho2 ho with h | h
      · simp [preB, hp, hanc j h]
      · exact absurd hx ((apartB_spec h).1 x hd2).1
  have hpre0 : ∀ (i : Nat) (o : Oper), ops[i]? = some o → memB τ i = false → ∀ x ∈ looks ops o, tv ops v (preB τ) s0.t i x = tA x := fun i o ho hi x hx => by
    refine (tv_stop (i := i) ops.length (Nat.le_of_lt (List.getElem?_eq_some_iff.1 ho).1) fun j h1 h2 h3 hdj => ?_).symm
    obtain ⟨o', ho2, hd2⟩ := hdst j x hdj
    have hp : memB τ j = false := by simpa [preB] using h3
    obtain ⟨d, hd, h4, _⟩ := anti_at han ho ho2 hp
    rw [hd2] at hd; cases hd
    have := h4 hx
    omega
  have hval : ∀ (i : Nat) (o : Oper) (d : Nat), ops[i]? = some o → memB τ i = false → o.dst = some d → tA d = v i := fun i o d ho hi hd => by
    have hil := (List.getElem?_eq_some_iff.1 ho).1
    have e : tA d = tv ops v (preB τ) s0.t (i + 1) d := tv_stop ops.length hil fun j h1 h2 h3 hdj => by
      obtain ⟨o', ho2, hd2⟩ := hdst j d hdj
      have hp : memB τ j = false := by simpa [preB] using h3
      obtain ⟨d', hd', _, h5⟩ := anti_at han ho ho2 hp
      rw [hd2] at hd'; cases hd'
      exact h5 hi (by omega) hd
    rw [e]
    have hdi : dstIn ops i = some d := by simp [dstIn, ho, hd]
    simp only [tv, preB, hi, Bool.not_false, hdi, putT, upd_same]
  -- a value's operation, whenever it comes
  have hGc : ∀ (c i : Nat) (o : Oper), c ≤ τ.length → ops[i]? = some o → memB τ i = false → (∀ q m, q < c → τ[q]? = some m → ¬ Anc ops i m) → ∃ d, o.dst = some d ∧ Gives P Γ ops (sc c) o (sc c).t ((sc c).t d) := fun c i o hc ho hi hn => by
    cases c with
    | zero =>
      obtain ⟨d, hd, _, _⟩ := anti_at han ho ho hi
      refine ⟨d, hd, ?_⟩
      have e : (sc 0).t d = v i := by rw [hsc]; exact hval i o d ho hi hd
      rw [e]
      exact gives_congr (hv i o ho hi) fun x hx => (hpre0 i o ho hi x hx).symm
    | succ c =>
      obtain ⟨m, o', E, _, _, _, _, _, _, hre⟩ := hte c (by omega)
      exact reG_mem hre (lateB_mem ho hi hn)
  let Inv : Array Bool → Cx → Act → Prop := fun lst cx a => ∃ c, c ≤ τ.length ∧ (∀ q m, τ[q]? = some m → (lst.getD m false = true ↔ q < c)) ∧ Sim T base G (sg lst c) cx a
  have hrep : ∀ i, (Array.replicate ops.length false).getD i false = false := fun i => by
    rw [Array.getD_eq_getD_getElem?, Array.getElem?_replicate]
    split <;> rfl
  refine wpIn_region_any hm ?_
  have hdrw : Sim T base G s0 ⟨c0.w.drew, c0.ok, c0.μ, c0.yl⟩ a0 := by
    obtain ⟨h1, h2, h3⟩ := hs0.good.drew
    obtain ⟨rs, hdf⟩ := hs0.df
    exact ⟨hs0.sz, fun i => h3 _ _ (hs0.tm i), h1, hs0.gh.imp fun _ _ _ h => h3 _ _ h, ⟨rs, hdf.fr h2⟩, hst _ _ _ h2 hs0.tt⟩
  have hmain := any_gen (ρ := ρ) (n := n) (P := P) (Q := Q) hback Inv ?hend ?hstep ops.length (Array.replicate ops.length false) ⟨c0.w.drew, c0.ok, c0.μ, c0.yl⟩ a0 (by simp)
    (by
      have := List.length_filter_le (fun i => !(Array.replicate ops.length false).getD i false) (List.range ops.length)
      simpa using this) (fun i o _ h => by rw [hrep] at h; cases h) ?start
  · simpa using hmain
  case start =>
    refine ⟨0, Nat.zero_le _, fun q m _ => by rw [hrep]; simp, ?_⟩
    have e : tp (Array.replicate ops.length false) = s0.t := by
      show tv ops v _ s0.t ops.length = s0.t
      have : ∀ m, tv ops v (fun i => (Array.replicate ops.length false).getD i false && preB τ i) s0.t m = s0.t := by
        intro m
        induction m with
        | zero => rfl
        | succ m ih =>
          have e : ((Array.replicate ops.length false).getD m false && preB τ m) = false := by rw [hrep]; rfl
          show (match ((Array.replicate ops.length false).getD m false && preB τ m) with | true => _ | false => _) = s0.t
          rw [e]
          exact ih
      exact this _
    show Sim T base G (apAll (te.take 0) { s0 with t := tp _ }) _ _
    rw [e]
    exact hdrw
  case hend =>
    rintro lst cx a hall ⟨c, hc, hq, hs⟩
    have hcl : c = τ.length := by
      rcases Nat.lt_or_ge c τ.length with h | h
      · exfalso
        have hm' : τ[c]? = some τ[c] := List.getElem?_eq_getElem h
        have := List.all_eq_true.1 hrg _ (List.getElem_mem h)
        have := (hq c _ hm').1 (hall _ (by simpa [Nat.blt_eq] using this))
        omega
      · omega
    have e : tp lst = tA := by
      funext x
      exact tv_agree _ fun j hj _ => by simp [hall j hj]
    refine hk _ _ _ hend ?_
    have : sg lst c = apAll te { s0 with t := tA } := by
      show apAll (te.take c) ({ s0 with t := tp lst } : St) = _
      rw [e, hcl, ← htl, List.take_length]
    rw [← this]
    exact hs
  case hstep =>
    rintro lst cx a i o K ho hsz hli hpre hdc ⟨c, hc, hq, hs⟩ hK
    have hancI : ∀ j, Anc ops j i → lst.getD j false = true := fun j h => by
      cases h with
      | edge ho2 hj => rw [ho] at ho2; cases ho2; exact hpre _ hj
      | step ho2 hm h => rw [ho] at ho2; cases ho2; exact hdc.anc h (hpre _ hm)
    have hset : ∀ j, (lst.setIfInBounds i true).getD j false = if j = i then true else lst.getD j false := fun j => by
      have hil := (List.getElem?_eq_some_iff.1 ho).1
      by_cases hji : j = i
      · subst hji
        rw [if_pos rfl, Array.getD_eq_getD_getElem?, Array.getElem?_setIfInBounds, if_pos rfl, if_pos (by omega)]
        rfl
      · rw [if_neg hji, getD_set_ne false (Ne.symm hji)]
    have hlk := hlook lst i o ho hancI
    have hlk' : ∀ x ∈ looks ops o, (sg lst c).t x = (sc c).t x := fun x hx => by
      rw [hsg, hsc]
      show FA _ _ x (tp lst x) = _
      rw [hlk x hx]
    cases hp : memB τ i with
    | false =>
      have hn : ∀ q m, q < c → τ[q]? = some m → ¬ Anc ops i m := fun q m hqc hqm ha => by
        have := hdc.anc ha ((hq q m hqm).2 hqc)
        rw [hli] at this; cases this
      obtain ⟨d, hd, hG⟩ := hGc c i o hc ho hp hn
      have hG2 : Gives P Γ ops (sg lst c) o (sg lst c).t ((sc c).t d) := by
        have := gives_congr hG (t' := (sg lst c).t) hlk'
        rw [hsg]
        rw [hsg] at this
        exact this
      refine gives_wp (s := sg lst c) (t := (sg lst c).t) hT hst hG2 hs ho fun d2 u hs2 => hK d2 u ⟨c, hc, fun q m hqm => ?_, ?_⟩
      · rw [hset, if_neg (fun he => ?_)]
        · exact hq q m hqm
        · subst he
          rw [(memB_iff _ _).2 (List.mem_of_getElem? hqm)] at hp
          cases hp
      · have e : sg (lst.setIfInBounds i true) c = { sg lst c with t := putT (sg lst c).t o.dst ((sc c).t d) } := by
          rw [hsg, hsg]
          have : (fun x => FA (te.take c) s0.L x (tp (lst.setIfInBounds i true) x)) = putT (fun x => FA (te.take c) s0.L x (tp lst x)) o.dst ((sc c).t d) := by
            funext x
            by_cases hx : o.dst = some x
            · rw [hd] at hx; cases hx
              rw [hd]
              simp only [putT, upd_same, hsc]
              congr 1
              refine tv_agree _ fun j hj hdj => ?_
              obtain ⟨o', ho2, hd2⟩ := hdst j d hdj
              cases hpj : memB τ j with
              | true => simp [preB, hpj]
              | false =>
                by_cases hji : j = i
                · simp only [hset, if_pos hji, preB, hpj]; rfl
                · obtain ⟨d', hd', _, h5⟩ := anti_at han ho ho2 hpj
                  rw [hd2] at hd'; cases hd'
                  exact absurd hd (h5 hp (Ne.symm hji))
            · rw [putT_ne hx]
              congr 1
              refine tv_agree _ fun j hj hdj => ?_
              have hji : j ≠ i := fun he => by
                subst he
                obtain ⟨o', ho2, hd2⟩ := hdst j x hdj
                rw [ho] at ho2; cases ho2
                exact hx hd2
              rw [hset, if_neg hji]
          simp only [this]
        rw [e]
        exact hs2
    | true =>
      obtain ⟨q, hqi⟩ := List.mem_iff_getElem?.1 ((memB_iff _ _).1 hp)
      have hql := (List.getElem?_eq_some_iff.1 hqi).1
      have hqc : q = c := by
        rcases Nat.lt_trichotomy q c with h | h | h
        · have := (hq q i hqi).2 h
          rw [hli] at this; cases this
        · exact h
        · exfalso
          have step : ∀ r, c + r < q → ∀ m, τ[q - 1 - r]? = some m → lst.getD m false = true := by
            intro r
            induction r with
            | zero =>
              intro hr m hm'
              have ha := chain_anc hch (q := q - 1) (m := m) (m' := i) hm' (by rw [show q - 1 + 1 = q by omega]; exact hqi)
              exact hancI m (ancs_sound ops ops [] [] rfl rfl (fun i x hx => by simp at hx) i m ((memB_iff _ _).1 ha))
            | succ r ih =>
              intro hr m hm'
              have hm2 : τ[q - 1 - r]? = some τ[q - 1 - r] := List.getElem?_eq_getElem (by omega)
              have ha := chain_anc hch (q := q - 1 - (r + 1)) (m := m) (m' := τ[q - 1 - r]) hm' (by rw [show q - 1 - (r + 1) + 1 = q - 1 - r by omega]; exact hm2)
              exact hdc.anc (ancs_sound ops ops [] [] rfl rfl (fun i x hx => by simp at hx) _ m ((memB_iff _ _).1 ha)) (ih (by omega) _ hm2)
          have hmc : τ[c]? = some τ[c] := List.getElem?_eq_getElem (by omega)
          have := step (q - 1 - c) (by omega) τ[c] (by rw [show q - 1 - (q - 1 - c) = c by omega]; exact hmc)
          have := (hq c _ hmc).1 this
          omega
      subst hqc
      obtain ⟨m, o', E, g1, g2, g3, g4, g5, g6, g7⟩ := hte q hql
      rw [hqi] at g1; cases g1
      rw [ho] at g2; cases g2
      unfold wpOpIn
      rw [List.getElem?_toArray, ho]
      simp only
      rw [if_pos (by simp [Region.wanted, g3])]
      have hev : ∀ x ∈ o.op.operands, (sg lst q).ev x = (sc q).ev x := fun x hx => by
        cases x with
        | tmp d => exact hlk' d (List.mem_append.2 (.inl (List.mem_filterMap.2 ⟨.tmp d, by simpa using hx, rfl⟩)))
        | _ => rfl
      have hvc : vcE P Γ 0 o (sg lst q).ev (sg lst q).L (sg lst q).nx (fun e => e = E) := by
        rw [vcE_congr hev, hsg]
        exact g6
      obtain ⟨e, he, hx⟩ := vcE_sound hT (Nat.zero_le _) hs.good hs.eval hvc
      subst he
      have hdo : ∀ t, o.dst = some t → t < (sg lst q).nt := fun t ht => by
        have e : (sg lst q).nt = s0.nt := apAll_nt _ _
        rw [ht] at g4
        rw [e]
        simpa [dstOk, Nat.blt_eq] using g4
      refine hx ρ n K Q fun u d2 hd2 => hK d2 u ⟨q + 1, by omega, fun q' m' hq' => ?_, ?_⟩
      · rw [hset]
        by_cases he : m' = i
        · subst he
          rw [if_pos rfl]
          refine ⟨fun _ => ?_, fun _ => rfl⟩
          rcases Nat.lt_or_ge q' (q + 1) with h | h
          · exact h
          · exfalso
            -- the same operation stands twice in τ: it would wait for itself
            have hq'l := (List.getElem?_eq_some_iff.1 hq').1
            have step : ∀ r, q + r < q' → ∀ m, τ[q' - 1 - r]? = some m → lst.getD m false = true := by
              intro r
              induction r with
              | zero =>
                intro hr m hm'
                have ha := chain_anc hch (q := q' - 1) (m := m) (m' := m') hm' (by rw [show q' - 1 + 1 = q' by omega]; exact hq')
                exact hancI m (ancs_sound ops ops [] [] rfl rfl (fun i x hx => by simp at hx) m' m ((memB_iff _ _).1 ha))
              | succ r ih =>
                intro hr m hm'
                have hm2 : τ[q' - 1 - r]? = some τ[q' - 1 - r] := List.getElem?_eq_getElem (by omega)
                have ha := chain_anc hch (q := q' - 1 - (r + 1)) (m := m) (m' := τ[q' - 1 - r]) hm' (by rw [show q' - 1 - (r + 1) + 1 = q' - 1 - r by omega]; exact hm2)
                exact hdc.anc (ancs_sound ops ops [] [] rfl rfl (fun i x hx => by simp at hx) _ m ((memB_iff _ _).1 ha)) (ih (by omega) _ hm2)
            have hs2 := step (q' - 1 - q) (by omega) m' (by rw [show q' - 1 - (q' - 1 - q) = q by omega]; exact hqi)
            rw [hli] at hs2; cases hs2
        · rw [if_neg he, hq q' m' hq']
          constructor
          · intro h; omega
          · intro h
            rcases Nat.lt_or_ge q' q with h' | h'
            · exact h'
            · exfalso
              have : q' = q := by omega
              subst this
              rw [hqi] at hq'
              cases hq'
              exact he rfl
      · have e1 : tp (lst.setIfInBounds i true) = tp lst := by
          funext x
          refine tv_agree _ fun j hj hdj => ?_
          by_cases hji : j = i
          · subst hji; simp [preB, hp]
          · rw [hset, if_neg hji]
        have e2 : te.take (q + 1) = te.take q ++ [(o.dst, e)] := by
          rw [List.take_add_one, g5]; rfl
        have e3 : sg (lst.setIfInBounds i true) (q + 1) = (sg lst q).ap o.dst e := by
          show apAll (te.take (q + 1)) ({ s0 with t := tp (lst.setIfInBounds i true) } : St) = (apAll (te.take q) ({ s0 with t := tp lst } : St)).ap o.dst e
          rw [e1, e2, apAll_snoc]
        rw [e3]
        exact hs.ap hst hd2 o.dst hdo
end
/-- What a region asks whose order is drawn. -/
noncomputable def vcDr (P : Program) (Γ : Nat → Option TI) (ops : List Oper) (s : St) (k : St → Prop) : Prop := vcDq P Γ ops s k ∨ vcDt P Γ ops s k
theorem draw_ok {P : Program} {Γ : Nat → Option TI} (hm : P.follows .mixedOrders = true) (hT : TyOk P Γ) {T : Option Nat → Cx → Prop} {base : Option Nat} {G : List Value} {ρ : Option Nat} {n : Nat} (hst : Stable T) : DOk P T base G ρ n (vcDr P Γ) :=
  fun ops s k c a id Q h hs hk => h.elim (fun h => drawq_ok hm hT hst ops s k c a id Q h hs hk) fun h => drawt_ok hm hT hst ops s k c a id Q h hs hk
end Go.Proofs.Ytcmciimogcfakaa

/- Loops over functions. -/
set_option linter.unusedVariables false
set_option linter.unusedSimpArgs false
namespace Go.Proofs.Ytcmciimogcfakaa
open Go Go.RowKit

/-- What a round may do: its own blocks are turned, and its loop's record. -/
structure RFr (l : Nat) (c d : Cx) : Prop where
  os : d.w.os = c.w.os
  tape : d.w.tape = c.w.tape
  output : d.w.output = c.w.output
  size : c.w.heap.size ≤ d.w.heap.size
  same : ∀ b, b < c.w.heap.size → ¬ c.own b → b ≠ l → d.w.heap[b]? = c.w.heap[b]?
  own : ∀ b, d.own b → c.own b ∨ c.w.heap.size ≤ b
  ok : ∀ b, d.ok b → c.ok b ∨ c.own b ∨ c.w.heap.size ≤ b
  drn : c.w.drawn ≤ d.w.drawn
theorem RFr.refl (l : Nat) (c : Cx) : RFr l c c := ⟨rfl, rfl, rfl, Nat.le_refl _, fun _ _ _ _ => rfl, fun _ h => .inl h, fun _ h => .inl h, Nat.le_refl _⟩
theorem RFr.fr {l : Nat} {c d e : Cx} (h : RFr l c d) (k : Fr d e) : RFr l c e := by
  refine ⟨k.os.trans h.os, k.tape.trans h.tape, k.output.trans h.output, Nat.le_trans h.size k.size, fun b hb hn hl => ?_, fun b hb => ?_, fun b hb => ?_, Nat.le_trans h.drn k.drn⟩
  · rw [k.same b (Nat.lt_of_lt_of_le hb h.size) (fun hd => (h.own b hd).elim hn fun hle => by omega), h.same b hb hn hl]
  · rcases k.own b hb with h1 | h1
    · exact h.own b h1
    · exact .inr (Nat.le_trans h.size h1)
  · rcases k.ok b hb with h1 | h1 | h1
    · exact h.ok b h1
    · rcases h.own b h1 with h2 | h2
      · exact .inr (.inl h2)
      · exact .inr (.inr h2)
    · exact .inr (.inr (Nat.le_trans h.size h1))
/-- The loop's side, as an iterator sees it: K y: so many things have been taken (none: it has had enough). -/
structure Cons (P : Program) (l : Nat) (items : List (List AV)) (Pr : Nat → Prop) (K : Option Nat → Cx → Prop) : Prop where
  ev : ∀ y c c', Ev Pr c c' → K y c → K y c'
  lt : ∀ y c b, K y c → (c.own b ∨ c.ok b) → b < c.w.heap.size
  apart : ∀ y c, K y c → ¬ c.own l ∧ ¬ c.ok l
  pr : Pr l
  round : ∀ i x c vs, K (some i) c → items[i]? = some x → F2 (R0 c.w c.ok) x vs → ∃ f tmps assign body, (Instr.yield l vs.toArray).run P c.w = .ok (.round l f tmps assign body) c.w ∧
    ∀ n, RoundIn Fence.wide n P l f tmps assign body c.w fun e w' => ∃ b c', e = .returned (.bool b) ∧ c'.w = w' ∧ RFr l c c' ∧ K (bif b then some (i + 1) else none) c'
/-- The iterator g hands over items, one by one, till it is told that it is enough. -/
def IT (P : Program) (g : FuncId) (caps : List AV) (items : List (List AV)) : Prop :=
  (∀ as w, (callFunc g as).run P w = .ok (.enter g as) w) ∧
  ∀ (l : Nat) (c : Cx) (us : List Value) (Pr : Nat → Prop) (K : Option Nat → Cx → Prop), Cons P l items Pr K → K (some 0) c → (∀ b, Pr b → b < c.w.heap.size) → (∀ b, c.ok b → ¬ c.own b) → F2 (R0 c.w c.ok) caps us → ∀ n,
    CallsIn Fence.wide n P g (Value.func (.yield l) #[] #[] :: us).toArray c.w fun e w' => ∃ v c', e = .returned v ∧ c'.w = w' ∧ (K (some items.length) c' ∨ K none c')

theorem Ev.r0 {Pr : Nat → Prop} {c c' : Cx} (h : Ev Pr c c') (hl : ∀ b, c.ok b → b < c.w.heap.size) {a : AV} {v : Value} (hr : R0 c.w c.ok a v) : R0 c'.w c'.ok a v :=
  hr.mono (fun b hb => by rw [h.ok]; exact hb) fun b hb => h.same b (hl b hb) (.inr (.inr hb))
/-- The walk's knowledge outlives what goes on elsewhere. -/
theorem Ev.good {Pr : Nat → Prop} {c c' : Cx} {L : Nat → Blk} (h : Ev Pr c c') (hg : Good c L) : Good c' L ∧ ∀ a v, Rel c a v → Rel c' a v := by
  have hr0 : ∀ a v, R0 c.w c.ok a v → R0 c'.w c'.ok a v := fun a v => h.r0 fun b hb => (hg.okd b hb).1
  have hrel : ∀ a v, Rel c a v → Rel c' a v := fun a v hr => hr.mono hr0 h.yl fun i e he => by rw [h.μ]; exact he
  have hown : ∀ b, c'.own b → c.own b := fun b ⟨i, e, hi, hn, hb⟩ => ⟨i, e, by rw [← h.μ]; exact hi, hn, hb⟩
  refine ⟨⟨fun i hi => ?_, fun i e he => hg.dom i e (by rw [← h.μ]; exact he), fun i j e e' he he' => hg.inj i j e e' (by rw [← h.μ]; exact he) (by rw [← h.μ]; exact he'), fun b hb => ?_⟩, hrel⟩
  · obtain ⟨e, he, hr⟩ := hg.blk i hi
    exact ⟨e, by rw [h.μ]; exact he, hr.keep hrel hr0 fun hn => h.same _ (hr.lt hn) (.inr (.inl ⟨i, e, he, hn, rfl⟩))⟩
  · rw [h.ok] at hb
    have := hg.okd b hb
    exact ⟨Nat.lt_of_lt_of_le this.1 h.size, fun ho => this.2 (hown b ho)⟩
theorem Df.ev {base : Option Nat} {c c' : Cx} {ds : List Deferred} {rs : List Nat} {Pr : Nat → Prop} (h : Df base c ds rs) (he : Ev Pr c c') (hp : ∀ r ∈ rs, Pr r) : Df base c' ds rs := by
  induction h with
  | nil => exact .nil
  | @cons x xs r rs ht hh hb ho hk hn _ ih =>
    have hlt : r < c.w.heap.size := (Array.getElem?_eq_some_iff.1 hh).1
    refine .cons ht (by rw [he.same r hlt (.inl (hp r (by simp)))]; exact hh) hb (fun ⟨i, e, hi, hn, hb⟩ => ho ⟨i, e, by rw [← he.μ]; exact hi, hn, hb⟩) (by rw [he.ok]; exact hk) hn (ih fun r hr => hp r (by simp [hr]))
theorem Sim.ev {T : Option Nat → Cx → Prop} {base : Option Nat} {G : List Value} {s : St} {c c' : Cx} {a : Act} {Pr : Nat → Prop} (hse : StE T base) (h : Sim T base G s c a) {rs : List Nat} (hd : Df base c a.defers rs) (he : Ev Pr c c') (hb : ∀ b, below base b → Pr b) (hp : ∀ r ∈ rs, Pr r) : Sim T base G s c' a := by
  obtain ⟨g1, g2⟩ := he.good h.good
  exact ⟨h.sz, fun i => g2 _ _ (h.tm i), g1, h.gh.imp fun _ _ _ h => g2 _ _ h, ⟨rs, hd.ev he hp⟩, hse _ _ _ ⟨he.os, he.tape, he.output, he.size, fun b hb' h => he.same b hb' (h.imp (hb b) fun h => h), he.μ, he.ok, he.yl, he.drn⟩ h.tt⟩

/-- An iterator's calls of yield. -/
def itY (items : List (List AV)) (as : List AV) (s : St) (k : AV → St → Prop) : Prop :=
  ∃ i x, s.y = some i ∧ items[i]? = some x ∧ as = x ∧ x.all (flat 8) = true ∧ k (.bool true) { s with y := some (i + 1) } ∧ k (.bool false) { s with y := none }
def itPost (m : Nat) : Exit → St → Prop
  | .normal, s => s.y = some m ∨ s.y = none
  | .ret, s => s.y = some m ∨ s.y = none
  | _, _ => False
def noR : Operand → Array Tmp → Code → Code → (Exit → St → Prop) → St → Prop := fun _ _ _ _ _ _ => False
theorem noR_ok (P : Program) (T : Option Nat → Cx → Prop) (base : Option Nat) (G : List Value) (ρ : Option Nat) (n : Nat) : ROk P T base G ρ n noR := fun _ _ _ _ _ _ _ _ _ h => h.elim
def itT (K : Option Nat → Cx → Prop) (Pr : Nat → Prop) (l : Nat) (y : Option Nat) (d : Cx) : Prop :=
  ∃ c, c.w = d.w ∧ K y c ∧ (∀ b, d.own b → ¬ Pr b ∧ ¬ c.own b ∧ ¬ c.ok b) ∧ (∀ b, d.ok b → ¬ c.own b ∧ b ≠ l) ∧ d.yl = some l ∧ ∀ b, Pr b → b < d.w.heap.size
section
variable {P : Program} {l : Nat} {items : List (List AV)} {Pr : Nat → Prop} {K : Option Nat → Cx → Prop}
theorem flats {w w' : World} {ok ok' : Nat → Prop} {x : List AV} {vs : List Value} (h : F2 (R0 w ok) x vs) (hf : x.all (flat 8) = true) : F2 (R0 w' ok') x vs :=
  h.imp fun a v ha hr => flat_r0 8 a v (List.all_eq_true.1 hf a ha) hr
theorem rel_flat {c : Cx} : ∀ (n : Nat) (a : AV) (v : Value), flat n a = true → Rel c a v → R0 c.w c.ok a v := by
  intro n
  induction n with
  | zero =>
    intro a v hf h
    cases a <;> simp [flat] at hf
    · rw [h.int_inv]; exact .int _ _
    · rw [h.bool_inv]; exact .bool _
  | succ n ih =>
    intro a v hf h
    cases a <;> simp [flat] at hf
    · rw [h.int_inv]; exact .int _ _
    · rw [h.bool_inv]; exact .bool _
    · obtain ⟨vs, rfl, h2⟩ := h.agg_inv
      exact .agg h2.length fun i a v ha hv => by
        obtain ⟨u, hu, hr⟩ := h2.get i ha
        rw [hu] at hv; cases hv
        exact ih _ _ (hf _ (List.mem_of_getElem? ha)) hr
    · obtain ⟨vs, rfl, h2⟩ := h.tup_inv
      exact .tup h2.length fun i a v ha hv => by
        obtain ⟨u, hu, hr⟩ := h2.get i ha
        rw [hu] at hv; cases hv
        exact ih _ _ (hf _ (List.mem_of_getElem? ha)) hr
theorem itT_stable (hc : Cons P l items Pr K) : Stable (itT K Pr l) := by
  rintro y d d' hf ⟨c, hw, hk, h1, h2, h3, h4⟩
  have hlt : ∀ b, c.own b ∨ c.ok b → b < d.w.heap.size := fun b hb => by rw [← hw]; exact hc.lt y c b hk hb
  have hev : Ev Pr c ⟨d'.w, c.ok, c.μ, c.yl⟩ := by
    refine ⟨by rw [hw]; exact hf.os, by rw [hw]; exact hf.tape, by rw [hw]; exact hf.output, by rw [hw]; exact hf.size, fun b hb hp => ?_, rfl, rfl, rfl, by rw [hw]; exact hf.drn⟩
    rw [hw] at hb ⊢
    refine hf.same b hb fun ho => ?_
    obtain ⟨g1, g2, g3⟩ := h1 b ho
    exact hp.elim g1 fun h => h.elim g2 g3
  refine ⟨⟨d'.w, c.ok, c.μ, c.yl⟩, rfl, hc.ev _ _ _ hev hk, fun b hb => ?_, fun b hb => ?_, hf.yl.trans h3, fun b hb => Nat.lt_of_lt_of_le (h4 b hb) hf.size⟩
  · rcases hf.own b hb with h | h
    · exact h1 b h
    · exact ⟨fun hp => by have := h4 b hp; omega, fun ho => by have := hlt b (.inl ho); omega, fun ho => by have := hlt b (.inr ho); omega⟩
  · rcases hf.ok b hb with h | h | h
    · exact h2 b h
    · obtain ⟨g1, g2, g3⟩ := h1 b h
      exact ⟨g2, fun he => g1 (by rw [he]; exact hc.pr)⟩
    · exact ⟨fun ho => by have := hlt b (.inl ho); omega, fun he => by have := h4 l hc.pr; omega⟩
theorem itY_ok (hc : Cons P l items Pr K) (n : Nat) : YOk P (itT K Pr l) none [] none n (itY items) := by
  intro o cl f s d a k next Q ho hcl hf hdo hs hy hk
  obtain ⟨i, x, hsy, hx, hax, hfl, h1, h2⟩ := hy
  obtain ⟨c, hw, hK, g1, g2, g3, g4⟩ := hs.tt
  rw [hsy] at hK
  have hr := hs.eval f
  rw [hf] at hr
  obtain ⟨l', hl', ef⟩ := hr.yld_inv
  rw [g3] at hl'
  cases hl'
  have hargs := F2.of_ops hs.eval cl.args.toList
  rw [hax] at hargs
  have hargs' : F2 (R0 d.w d.ok) x (cl.args.toList.map a.eval) := hargs.imp fun av v ha hr => rel_flat 8 av v (List.all_eq_true.1 hfl av ha) hr
  obtain ⟨f', tmps, assign, body, hrun, hround⟩ := hc.round i x c _ hK hx (flats hargs' hfl)
  have hdf : a.defers = [] := by
    obtain ⟨rs, hd⟩ := hs.df
    generalize a.defers = ds at hd
    cases hd with
    | nil => rfl
    | cons _ _ hb => obtain ⟨m, hm, _⟩ := hb; cases hm
  refine ⟨fun f _ => Fx_fn _ f, ?_⟩
  have hex : (execOp a.eval o).run P d.w = .ok (.round l f' tmps assign body) d.w := by
    have e : cl.args.map a.eval = (cl.args.toList.map a.eval).toArray := by rw [← Array.toList_map, Array.toArray_toList]
    rw [← hw, ← hrun]
    simp [execOp, ho, resolve, hcl, ef, Deferred.ofValue, invoke, e]
  rw [semAt_exec _ _ _ (by rw [ho]), hex]
  refine ⟨fun hd => by simp [Fx, Fence.wide] at hd, ?_⟩
  rw [← hw]
  refine (hround (n - 1)).mono ?_
  rintro e w' ⟨b, c', rfl, rfl, hrf, hK'⟩
  have hsame : ∀ b, b < d.w.heap.size → (d.own b ∨ d.ok b) → c'.w.heap[b]? = d.w.heap[b]? := fun b hb ho => by
    rw [← hw] at hb ⊢
    refine hrf.same b hb ?_ ?_
    · exact ho.elim (fun h => (g1 b h).2.1) fun h => (g2 b h).1
    · exact ho.elim (fun h he => (g1 b h).1 (by rw [he]; exact hc.pr)) fun h => (g2 b h).2
  have hr0 : ∀ a v, R0 d.w d.ok a v → R0 c'.w d.ok a v := fun a v h => h.mono (fun _ h => h) fun b hb => hsame b (hs.good.okd b hb).1 (.inr hb)
  have hrel : ∀ a v, Rel d a v → Rel ⟨c'.w, d.ok, d.μ, d.yl⟩ a v := fun a v h => Rel.mono (d := ⟨c'.w, d.ok, d.μ, d.yl⟩) hr0 rfl (fun _ _ h => h) h
  have hsz : d.w.heap.size ≤ c'.w.heap.size := by rw [← hw]; exact hrf.size
  have hgood : Good ⟨c'.w, d.ok, d.μ, d.yl⟩ s.L := ⟨fun i hi => by
      obtain ⟨e, he, hr⟩ := hs.good.blk i hi
      exact ⟨e, he, hr.keep hrel hr0 fun hn => hsame _ (hr.lt hn) (.inl ⟨i, e, he, hn, rfl⟩)⟩, hs.good.dom, hs.good.inj, fun b hb => ⟨Nat.lt_of_lt_of_le (hs.good.okd b hb).1 hsz, (hs.good.okd b hb).2⟩⟩
  have hdl : ∀ b, d.own b → b < c.w.heap.size := fun b hb => by rw [hw]; exact hs.good.lt hb
  have hsim : Sim (itT K Pr l) none [] { s with y := (bif b then some (i + 1) else none), t := putT s.t o.dst (.bool b) } ⟨c'.w, d.ok, d.μ, d.yl⟩ (a.put o.dst (.bool b)) := by
    refine ⟨?_, fun j => ?_, hgood, ?_, ?_, ⟨c', rfl, hK', fun b hb => ⟨(g1 b hb).1, fun ho => ?_, fun ho => ?_⟩, fun b hb => ⟨fun ho => ?_, (g2 b hb).2⟩, g3, fun b hb => Nat.lt_of_lt_of_le (g4 b hb) hsz⟩⟩
    · cases o.dst with
      | none => exact hs.sz
      | some t => simp only [Act.put, Array.size_setIfInBounds]; exact hs.sz
    · cases hd : o.dst with
      | none => exact hrel _ _ (hs.tm j)
      | some t =>
        have htn : t < a.tmps.size := by
          rw [hs.sz]
          rw [hd] at hdo
          simpa [dstOk, Nat.blt_eq] using hdo
        rw [getD_put a t _ j htn]
        show Rel _ (upd s.t t (.bool b) j) _
        by_cases hj : j = t
        · subst hj
          rw [upd_same, if_pos rfl]
          exact .pure (.bool _)
        · rw [upd_ne _ _ hj, if_neg hj]
          exact hrel _ _ (hs.tm j)
    · exact hs.gh.imp fun _ _ _ h => hrel _ _ h
    · refine ⟨[], ?_⟩
      have : (a.put o.dst (.bool b)).defers = a.defers := by cases o.dst <;> rfl
      rw [this, hdf]
      exact .nil
    · rcases hrf.own b ho with h | h
      · exact (g1 b hb).2.1 h
      · have := hdl b hb; omega
    · rcases hrf.ok b ho with h | h | h
      · exact (g1 b hb).2.2 h
      · exact (g1 b hb).2.1 h
      · have := hdl b hb; omega
    · rcases hrf.own b ho with h | h
      · exact (g2 b hb).1 h
      · have := (hs.good.okd b hb).1; rw [← hw] at this; omega
  cases b with
  | true => exact hk _ _ ⟨c'.w, d.ok, d.μ, d.yl⟩ _ h1 hsim
  | false => exact hk _ _ ⟨c'.w, d.ok, d.μ, d.yl⟩ _ h2 hsim
/-- An iterator's contract from its body. -/
theorem iter {Γ : Nat → Option TI} (hT : TyOk P Γ) {D : List Oper → St → (St → Prop) → Prop} {f : FuncId} {fn : Func} {code : Code} {caps : List AV} {items : List (List AV)} (hf : P.funcs[f]? = some fn) (hb : fn.body = some code) (hn : (fn.name == "runtime.NumGoroutine") = false)
    (hres : fn.results = #[]) (hnt : caps.length + 1 ≤ fn.ntmps) (hD : ∀ T base G n, Stable T → DOk P T base G none n D) (h : vcC P Γ (itY items) D noR code (itPost items.length) { st0 (.yld :: caps) fn.ntmps with y := some 0 }) : IT P f caps items := by
  refine ⟨fun as w => by have hn' : ¬ fn.name = "runtime.NumGoroutine" := (by simpa using hn); simp [callFunc, hf, hn', hb], fun l c us Pr K hc hK hPr hok hus n => ?_⟩
  refine callsIn_of_wp hf hb trivial ?_
  have hl := hus.length
  let d : Cx := ⟨c.w, c.ok, fun _ => none, some l⟩
  have hap := hc.apart _ _ hK
  have hs : Sim (itT K Pr l) none [] { st0 (.yld :: caps) fn.ntmps with y := some 0 } d { tmps := (Value.func (.yield l) #[] #[] :: us).toArray ++ Array.replicate (fn.ntmps - (Value.func (.yield l) #[] #[] :: us).toArray.size) undef, defers := [] } := by
    have hv : F2 (Rel d) (.yld :: caps) (Value.func (.yield l) #[] #[] :: us) := .cons (.yld l rfl) (hus.imp fun _ _ _ h => .pure h)
    refine ⟨by simp [st0]; omega, fun i => ?_, ⟨fun i hi => (by simp [st0, Blk.alive] at hi), fun i e he => (by cases he), fun i j e e' he => (by cases he), fun b hb => ⟨hc.lt (some 0) c b hK (.inr hb), fun ⟨i, e, he, _⟩ => (by cases he)⟩⟩, .nil, ⟨[], .nil⟩, ⟨c, rfl, hK, fun b ⟨i, e, he, _⟩ => (by cases he), fun b hb => ⟨hok b hb, fun he => hap.2 (by rw [← he]; exact hb)⟩, rfl, hPr⟩⟩
    show Rel d (arg (.yld :: caps) i) _
    unfold arg
    rw [Array.getD_eq_getD_getElem?]
    cases ha : (AV.yld :: caps)[i]? with
    | some v =>
      obtain ⟨u, hu, hr⟩ := hv.get i ha
      have hlt : i < (Value.func (.yield l) #[] #[] :: us).length := (List.getElem?_eq_some_iff.1 hu).1
      rw [Array.getElem?_append_left (by simpa using hlt)]
      simp only [List.getElem?_toArray, hu, Option.getD_some]
      exact hr
    | none =>
      have hge := List.getElem?_eq_none_iff.1 ha
      rw [Array.getElem?_append_right (by simp at hge ⊢; omega), Array.getElem?_replicate]
      have : ∀ p : Prop, [Decidable p] → (if p then some undef else none).getD undef = undef := fun p _ => by split <;> rfl
      rw [this]
      exact .pure .und
  refine vcC_sound (ρ := none) hT (itT_stable hc) (itY_ok hc n) (hD _ _ _ n (itT_stable hc)) (noR_ok _ _ _ _ _ _) code _ d _ _ _ h hs fun e s' d' a' hk hs' => ?_
  have hdf : a'.defers = [] := by
    obtain ⟨rs, hd⟩ := hs'.df
    generalize a'.defers = ds at hd
    cases hd with
    | nil => rfl
    | cons _ _ hb => obtain ⟨m, hm, _⟩ := hb; cases hm
  have key : (s'.y = some items.length ∨ s'.y = none) → (a'.defers = [] ∧ ∃ v, (results fn a'.tmps).run P d'.w = .ok v d'.w ∧ ∃ v' c', Ending.returned v = .returned v' ∧ c'.w = d'.w ∧ (K (some items.length) c' ∨ K none c')) := fun hy => by
    refine ⟨hdf, .tuple #[], by simp [results_eq, hres], .tuple #[], ?_⟩
    obtain ⟨c', hw', hK', _⟩ := hs'.tt
    refine ⟨c', rfl, hw', ?_⟩
    rcases hy with hy | hy
    · rw [hy] at hK'; exact .inl hK'
    · rw [hy] at hK'; exact .inr hK'
  cases e with
  | normal => exact key hk
  | ret => exact key hk
  | _ => exact hk.elim
end
end Go.Proofs.Ytcmciimogcfakaa

/- Loops over functions: the loop's side. -/
set_option linter.unusedVariables false
set_option linter.unusedSimpArgs false
namespace Go.Proofs.Ytcmciimogcfakaa
open Go Go.RowKit

def saved (s : St) : List AV := (List.range s.nt).map s.t
def backT (g : List AV) (nt i : Nat) : AV := match Nat.blt i nt with | true => (match g[i]? with | some v => v | none => .any) | false => .any
/-- A round is over: the activation's own slots, as they are now. -/
def back (nt : Nat) (s : St) : St := { s with t := backT s.g nt, nt := nt, g := s.g.drop nt }
def setPs : List Nat → List AV → (Nat → AV) → Nat → AV
  | p :: ps, x :: xs, t => setPs ps xs (upd t p x)
  | _, _, t => t
def roundSt (s : St) (ps : List Nat) (x : List AV) : St := { s with t := setPs ps x s.t, g := saved s ++ s.g }
def rnd (Q : Exit → St → Prop) (nt : Nat) (F : St) (I : Prop) : Exit → St → Prop
  | .normal, s => Wk (back nt s) F ∧ I
  | .exit j, s => Q (.exit j) (back nt s)
  | .ret, s => Q .ret (back nt s)
  | _, _ => False
def psOk (nt : Nat) (ps : List Nat) (x : List AV) : Bool := Nat.beq x.length ps.length && ps.all fun p => Nat.blt p nt
noncomputable def vcRF (P : Program) (Γ : Nat → Option TI) (D : List Oper → St → (St → Prop) → Prop) (f : Operand) (ps : Array Tmp) (assign body : Code) (Q : Exit → St → Prop) (s : St) : Prop :=
  frc (s.ev f) fun v => match v with
    | .fn g caps => caps.all AV.pureC = true ∧ ∃ items, IT P g caps items ∧ ∃ (F : Nat → St) (I : Nat → Prop), Wk s (F 0) ∧ I 0 ∧
        (∀ i x, I i → items[i]? = some x → psOk s.nt ps.toList x = true ∧ (F i).nt = s.nt ∧
          vcC P Γ noY D noR assign (fun e s1 => match e with | .normal => vcC P Γ noY D noR body (rnd Q s.nt (F (i + 1)) (I (i + 1))) s1 | _ => False) (roundSt (F i) ps.toList x)) ∧ (I items.length → Q .normal (F items.length))
    | _ => False

theorem setPs_sz : ∀ (ps : List Tmp) (vs : List Value) (tmps : Array Value), (((ps.zip vs).foldl (fun (tmps : Array Value) (x : Tmp × Value) => tmps.setIfInBounds x.1 x.2) tmps)).size = tmps.size
  | [], _, _ => rfl
  | _ :: _, [], _ => rfl
  | p :: ps, v :: vs, tmps => by
    simp only [List.zip_cons_cons, List.foldl_cons]
    rw [setPs_sz ps vs]
    simp
theorem setPs_rel {c : Cx} : ∀ (ps : List Tmp) (xs : List AV) (vs : List Value) (t : Nat → AV) (tmps : Array Value), F2 (R0 c.w c.ok) xs vs → (∀ p ∈ ps, p < tmps.size) → (∀ i, Rel c (t i) (tmps.getD i undef)) →
    ∀ i, Rel c (setPs ps xs t i) (((ps.zip vs).foldl (fun (tmps : Array Value) (x : Tmp × Value) => tmps.setIfInBounds x.1 x.2) tmps).getD i undef)
  | [], _, _, _, _, _, _, h => h
  | p :: ps, [], [], t, tmps, _, _, h => h
  | p :: ps, x :: xs, [], t, tmps, h2, _, h => by cases h2
  | p :: ps, [], v :: vs, t, tmps, h2, _, h => by cases h2
  | p :: ps, x :: xs, v :: vs, t, tmps, h2, hp, h => by
    cases h2 with
    | cons hr ht =>
    simp only [List.zip_cons_cons, List.foldl_cons, setPs]
    refine setPs_rel ps xs vs _ _ ht (fun q hq => by simpa using hp q (by simp [hq])) fun i => ?_
    have hpp := hp p (by simp)
    rw [Array.getD_eq_getD_getElem?, Array.getElem?_setIfInBounds]
    by_cases hi : i = p
    · subst hi
      rw [upd_same, if_pos rfl, if_pos hpp]
      exact .pure hr
    · rw [upd_ne _ _ hi, if_neg (Ne.symm hi), ← Array.getD_eq_getD_getElem?]
      exact h i
theorem Df.rfr {base : Option Nat} {c d : Cx} {ds : List Deferred} {rs : List Nat} {l : Nat} (h : Df base c ds rs) (hf : RFr l c d) (hl : l ∉ rs) : Df base d ds rs := by
  induction h with
  | nil => exact .nil
  | @cons x xs r rs ht hh hb ho hk hn _ ih =>
    have hlt : r < c.w.heap.size := (Array.getElem?_eq_some_iff.1 hh).1
    have hrl : r ≠ l := fun he => hl (by simp [he])
    exact .cons ht (by rw [hf.same r hlt ho hrl]; exact hh) hb (fun h => (hf.own r h).elim ho fun h => by omega) (fun h => (hf.ok r h).elim hk fun h => h.elim ho fun h => by omega) hn (ih fun h => hl (by simp [h]))
theorem Df.lt {base : Option Nat} {c : Cx} {ds : List Deferred} {rs : List Nat} (h : Df base c ds rs) : ∀ r ∈ rs, r < c.w.heap.size := by
  induction h with
  | nil => intro r hr; cases hr
  | @cons x xs r rs ht hh hb ho hk hn _ ih =>
    intro q hq
    rcases List.mem_cons.1 hq with rfl | hq
    · exact (Array.getElem?_eq_some_iff.1 hh).1
    · exact ih q hq
/-- One block turns, which is nobody's. -/
theorem ev_put {c : Cx} {l : Nat} (ho : ¬ c.own l) (hk : ¬ c.ok l) (ob : Obj) : Ev (fun b => b ≠ l) c ⟨c.w.putObj l ob, c.ok, c.μ, c.yl⟩ :=
  ⟨rfl, rfl, rfl, by show _ ≤ (c.w.putObj l ob).heap.size; simp, fun b hb hp => World.putObj_heap_other (hp.elim (fun h => h) fun h he => h.elim (fun h => ho (he ▸ h)) fun h => hk (he ▸ h)), rfl, rfl, rfl, Nat.le_refl _⟩
/-- What is known of a moment in a round. -/
def rT (T : Option Nat → Cx → Prop) (l : Nat) (c : Cx) (X : Loop) (y : Option Nat) (d : Cx) : Prop := T y d ∧ RFr l c d ∧ d.w.heap[l]? = some (.loop X) ∧ ¬ d.own l ∧ ¬ d.ok l
theorem rT_stable {T : Option Nat → Cx → Prop} (hst : Stable T) (l : Nat) (c : Cx) (X : Loop) : Stable (rT T l c X) := by
  rintro y d e hf ⟨h1, h2, h3, h4, h5⟩
  have hlt : l < d.w.heap.size := (Array.getElem?_eq_some_iff.1 h3).1
  exact ⟨hst _ _ _ hf h1, h2.fr hf, by rw [hf.same l hlt h4]; exact h3, fun h => (hf.own l h).elim h4 fun h => by omega, fun h => (hf.ok l h).elim h5 fun h => h.elim h4 fun h => by omega⟩
theorem rT_put {T : Option Nat → Cx → Prop} {m : Nat} (hse : StE T (some m)) {l : Nat} (hm : m ≤ l) {c : Cx} {X : Loop} {y : Option Nat} {d : Cx} (h : rT T l c X y d) (X' : Loop) : rT T l c X' y ⟨d.w.putObj l (.loop X'), d.ok, d.μ, d.yl⟩ := by
  obtain ⟨h1, h2, h3, h4, h5⟩ := h
  have hlt : l < d.w.heap.size := (Array.getElem?_eq_some_iff.1 h3).1
  have hev := ev_put h4 h5 (.loop X')
  refine ⟨hse _ _ _ ⟨hev.os, hev.tape, hev.output, hev.size, fun b hb hp => hev.same b hb (hp.imp (fun ⟨m', hm', hb'⟩ => by cases hm'; omega) fun h => h), rfl, rfl, rfl, hev.drn⟩ h1, ?_, World.putObj_heap_same hlt, h4, h5⟩
  exact ⟨h2.os, h2.tape, h2.output, by show _ ≤ (d.w.putObj l _).heap.size; simpa using h2.size, fun b hb hn hl => by show (d.w.putObj l _).heap[b]? = _; rw [World.putObj_heap_other hl]; exact h2.same b hb hn hl, h2.own, h2.ok, h2.drn⟩

section
variable {P : Program} {Γ : Nat → Option TI} {T : Option Nat → Cx → Prop} {m : Nat} {G : List Value}
def jumpOf : Exit → Option Code
  | .exit j => some (.exit j)
  | .ret => some .ret
  | _ => none
/-- The loop's side as the iterator's law asks for it. -/
def cK (T : Option Nat → Cx → Prop) (base : Option Nat) (G : List Value) (Q : Exit → St → Prop) (F : Nat → St) (I : Nat → Prop) (l : Nat) (X : LoopState → Option Code → Loop) (a : Act) (rs : List Nat) (y : Option Nat) (c : Cx) : Prop :=
  ¬ c.own l ∧ ¬ c.ok l ∧ Df base c a.defers rs ∧ match y with
  | some i => I i ∧ c.w.heap[l]? = some (.loop (X .ready none)) ∧ Sim T base G (F i) c a
  | none => ∃ e j s, jumpOf e = some j ∧ Q e s ∧ c.w.heap[l]? = some (.loop (X .done (some j))) ∧ Sim T base G s c a
theorem back_sim {c : Cx} {a0 : Act} {s : St} {T' : Option Nat → Cx → Prop} {ar : Act} (h : Sim T' none (a0.tmps.toList ++ G) s c ar) {nt : Nat} (hnt : a0.tmps.size = nt) {base : Option Nat} {rs : List Nat} (hd : Df base c a0.defers rs) (ht : T s.y c) : Sim T base G (back nt s) c a0 := by
  refine ⟨hnt, fun i => ?_, h.good, ?_, ⟨rs, hd⟩, ht⟩
  · show Rel c (backT s.g nt i) _
    unfold backT
    split
    · rename_i hi
      have hi : i < nt := by simpa [Nat.blt_eq] using hi
      split
      · rename_i v hv
        obtain ⟨u, hu, hr⟩ := h.gh.get i hv
        rw [List.getElem?_append_left (by simp; omega)] at hu
        rw [Array.getD_eq_getD_getElem?, ← Array.getElem?_toList, hu]
        exact hr
      · exact .pure (.any _)
    · exact .pure (.any _)
  · show F2 (Rel c) (s.g.drop nt) G
    have := h.gh.drop nt
    have e : (a0.tmps.toList ++ G).drop nt = G := by rw [← hnt, show a0.tmps.size = a0.tmps.toList.length by simp, List.drop_left]
    rw [e] at this
    exact this
theorem cons_ok (hT : TyOk P Γ) {D : List Oper → St → (St → Prop) → Prop} (hD : ∀ T base G ρ n, Stable T → DOk P T base G ρ n D) (hst : Stable T) (hse : StE T (some m)) {Q : Exit → St → Prop} {items : List (List AV)} {F : Nat → St} {I : Nat → Prop} {l : Nat} (hml : m ≤ l) {fn : FuncId} {a : Act} {ps : Array Tmp} {assign body : Code} {df : Nat} {rs : List Nat} (hlr : l ∉ rs) {nt : Nat} (hnt : a.tmps.size = nt)
    (hF : ∀ i x, I i → items[i]? = some x → psOk nt ps.toList x = true ∧ (F i).nt = nt ∧ vcC P Γ noY D noR assign (fun e s1 => match e with | .normal => vcC P Γ noY D noR body (rnd Q nt (F (i + 1)) (I (i + 1))) s1 | _ => False) (roundSt (F i) ps.toList x)) :
    Cons P l items (fun b => b < m ∨ b = l ∨ b ∈ rs) (cK T (some m) G Q F I l (fun st p => { state := st, pending := p, fn := fn, tmps := a.tmps, params := ps, assign := assign, body := body, defers := df }) a rs) := by
  refine ⟨fun y c c' he hk => ?_, fun y c b hk hb => ?_, fun y c hk => ⟨hk.1, hk.2.1⟩, .inr (.inl rfl), fun i x c vs hk hx hv => ?_⟩
  · obtain ⟨h1, h2, h3, h4⟩ := hk
    have hown : ¬ c'.own l := fun ⟨i, e, hi, hn, hb⟩ => h1 ⟨i, e, by rw [← he.μ]; exact hi, hn, hb⟩
    have hsim : ∀ s, Sim T (some m) G s c a → Sim T (some m) G s c' a := fun s hs => hs.ev hse h3 he (fun b ⟨m', hm', hb⟩ => by cases hm'; exact .inl hb) fun r hr => .inr (.inr hr)
    have hl : ∀ X, c.w.heap[l]? = some (.loop X) → c'.w.heap[l]? = some (.loop X) := fun X hX => by
      rw [he.same l (Array.getElem?_eq_some_iff.1 hX).1 (.inl (.inr (.inl rfl)))]
      exact hX
    refine ⟨hown, by rw [he.ok]; exact h2, h3.ev he fun r hr => .inr (.inr hr), ?_⟩
    cases y with
    | some i => exact ⟨h4.1, hl _ h4.2.1, hsim _ h4.2.2⟩
    | none =>
      obtain ⟨e, j, s, g1, g2, g3, g4⟩ := h4
      exact ⟨e, j, s, g1, g2, hl _ g3, hsim _ g4⟩
  · have : ∃ L, Good c L := by
      obtain ⟨_, _, _, h4⟩ := hk
      cases y with
      | some i => exact ⟨_, h4.2.2.good⟩
      | none => obtain ⟨e, j, s, _, _, _, g4⟩ := h4; exact ⟨_, g4.good⟩
    obtain ⟨L, hg⟩ := this
    exact hb.elim hg.lt fun h => (hg.okd b h).1
  · obtain ⟨h1, h2, h3, hI, h4, hs⟩ := hk
    obtain ⟨hps, hFn, hvc⟩ := hF i x hI hx
    simp only [psOk, Bool.and_eq_true] at hps
    have hxl := Nat.eq_of_beq_eq_true hps.1
    have hpl : ∀ p ∈ ps.toList, p < nt := fun p hp => by have := List.all_eq_true.1 hps.2 p hp; simpa [Nat.blt_eq] using this
    have hvl := hv.length
    refine ⟨_, _, _, _, run_yield h4 (by simp; rw [← hvl, hxl]; simp), fun n => ?_⟩
    refine roundIn_of_wpIn trivial ?_
    have hlt : l < c.w.heap.size := (Array.getElem?_eq_some_iff.1 h4).1
    let X : LoopState → Option Code → Loop := fun st p => { state := st, pending := p, fn := fn, tmps := a.tmps, params := ps, assign := assign, body := body, defers := df }
    have htm : (ps.zip vs.toArray).foldl (fun (tmps : Array Value) (x : Tmp × Value) => tmps.setIfInBounds x.1 x.2) a.tmps = (ps.toList.zip vs).foldl (fun (tmps : Array Value) (x : Tmp × Value) => tmps.setIfInBounds x.1 x.2) a.tmps := by
      rw [← Array.foldl_toList, Array.toList_zip]
    have s0 : Sim (rT T l c (X .ready none)) none (a.tmps.toList ++ G) (roundSt (F i) ps.toList x) c { tmps := (ps.zip vs.toArray).foldl (fun (tmps : Array Value) (x : Tmp × Value) => tmps.setIfInBounds x.1 x.2) a.tmps, defers := [] } := by
      refine ⟨?_, fun j => ?_, hs.good, ?_, ⟨[], .nil⟩, hs.tt, RFr.refl l c, h4, h1, h2⟩
      · show Array.size (Array.foldl _ _ _) = _
        rw [htm, setPs_sz]
        exact hs.sz
      · show Rel c (setPs ps.toList x (F i).t j) (Array.getD (Array.foldl _ _ _) j undef)
        rw [htm]
        exact setPs_rel ps.toList x vs _ _ hv (fun p hp => by rw [hnt]; exact hpl p hp) hs.tm j
      · refine F2.append (F2.of_get ?_ fun j av v hj hv => ?_) hs.gh
        · simp [saved, hFn, hnt]
        · obtain ⟨q, hq, hav⟩ := get_map hj
          obtain ⟨hql, hqe⟩ := List.getElem?_eq_some_iff.1 hq
          have hqe : q = j := by simpa using hqe.symm
          rw [hav, hqe]
          have := hs.tm j
          rw [Array.getD_eq_getD_getElem?, ← Array.getElem?_toList, hv] at this
          exact this
    have hst1 := rT_stable hst l c (X .ready none)
    have hst2 := rT_stable hst l c (X .busy none)
    refine vcC_sound (ρ := some l) (n := n) hT hst1 (noY_ok _ _ _ _ _ _) (hD _ _ _ _ _ hst1) (noR_ok _ _ _ _ _ _) assign _ c _ _ _ hvc s0 fun e s1 d a1 hk1 hs1 => ?_
    cases e with
    | normal =>
      have hr1 := hs1.tt
      obtain ⟨g1, g2, g3, g4, g5⟩ := hr1
      refine ⟨_, run_beginRound g3 rfl, ?_⟩
      have hev := ev_put g4 g5 (.loop (X .busy none))
      obtain ⟨hg', hrel'⟩ := hev.good hs1.good
      have hs2 : Sim (rT T l c (X .busy none)) none (a.tmps.toList ++ G) s1 ⟨d.w.putObj l (.loop (X .busy none)), d.ok, d.μ, d.yl⟩ a1 := by
        refine ⟨hs1.sz, fun j => hrel' _ _ (hs1.tm j), hg', hs1.gh.imp fun _ _ _ h => hrel' _ _ h, ?_, rT_put hse hml hs1.tt _⟩
        obtain ⟨rs1, hd1⟩ := hs1.df
        generalize a1.defers = ds at hd1 ⊢
        cases hd1 with
        | nil => exact ⟨[], .nil⟩
        | cons _ _ hb => obtain ⟨m', hm', _⟩ := hb; cases hm'
      refine vcC_sound (ρ := some l) (n := n) hT hst2 (noY_ok _ _ _ _ _ _) (hD _ _ _ _ _ hst2) (noR_ok _ _ _ _ _ _) body s1 ⟨d.w.putObj l (.loop (X .busy none)), d.ok, d.μ, d.yl⟩ a1 _ _ hk1 hs2 fun e s3 d3 a3 hk3 hs3 => ?_
      have hfin : ∀ (X' : Loop), ∀ s', s' = back nt s3 → ∃ c', c' = (⟨d3.w.putObj l (.loop X'), d3.ok, d3.μ, d3.yl⟩ : Cx) ∧ RFr l c c' ∧ ¬ c'.own l ∧ ¬ c'.ok l ∧ Df (some m) c' a.defers rs ∧ c'.w.heap[l]? = some (.loop X') ∧ Sim T (some m) G s' c' a := fun X' s' hs' => by
        have ht := rT_put hse hml hs3.tt X'
        obtain ⟨t1, t2, t3, t4, t5⟩ := ht
        have hev := ev_put hs3.tt.2.2.2.1 hs3.tt.2.2.2.2 (.loop X')
        obtain ⟨hg', hrel'⟩ := hev.good hs3.good
        have hd' : Df (some m) ⟨d3.w.putObj l (.loop X'), d3.ok, d3.μ, d3.yl⟩ a.defers rs := h3.rfr t2 hlr
        refine ⟨_, rfl, t2, t4, t5, hd', t3, ?_⟩
        rw [hs']
        have hs4 : Sim (fun _ _ => True) none (a.tmps.toList ++ G) s3 ⟨d3.w.putObj l (.loop X'), d3.ok, d3.μ, d3.yl⟩ { a3 with defers := [] } := ⟨hs3.sz, fun j => hrel' _ _ (hs3.tm j), hg', hs3.gh.imp fun _ _ _ h => hrel' _ _ h, ⟨[], .nil⟩, trivial⟩
        exact back_sim hs4 hnt hd' t1
      have h3l := hs3.tt.2.2.1
      cases e with
      | normal =>
        obtain ⟨c', hc', r1, r2, r3, r4, r5, r6⟩ := hfin (X .ready none) _ rfl
        obtain ⟨hkw, hkI⟩ : Wk (back nt s3) (F (i + 1)) ∧ I (i + 1) := hk3
        obtain ⟨c'', hw'', hfr'', hs''⟩ := hkw.2 T (some m) G hst c' a r6
        refine ⟨_, _, run_endRound none h3l, true, c'', rfl, by rw [hw'', hc']; rfl, r1.fr hfr'', ?_⟩
        have hlt' : l < c'.w.heap.size := (Array.getElem?_eq_some_iff.1 r5).1
        refine ⟨fun h => (hfr''.own l h).elim r2 fun h => by omega, fun h => (hfr''.ok l h).elim r3 fun h => h.elim r2 fun h => by omega, r4.fr hfr'', hkI, by rw [hw'']; exact r5, hs''⟩
      | ret =>
        obtain ⟨c', hc', r1, r2, r3, r4, r5, r6⟩ := hfin (X .done (some .ret)) _ rfl
        exact ⟨_, _, run_endRound (some .ret) h3l, false, c', rfl, by rw [hc']; rfl, r1, r2, r3, r4, .ret, .ret, _, rfl, hk3, r5, r6⟩
      | exit j =>
        obtain ⟨c', hc', r1, r2, r3, r4, r5, r6⟩ := hfin (X .done (some (.exit j))) _ rfl
        exact ⟨_, _, run_endRound (some (.exit j)) h3l, false, c', rfl, by rw [hc']; rfl, r1, r2, r3, r4, .exit j, .exit j, _, rfl, hk3, r5, r6⟩
      | _ => exact hk3.elim
    | _ => exact hk1.elim
theorem rf_ok (hT : TyOk P Γ) {D : List Oper → St → (St → Prop) → Prop} (hD : ∀ T base G ρ n, Stable T → DOk P T base G ρ n D) (hst : Stable T) (hse : StE T (some m)) (hm : ∀ y c, T y c → m ≤ c.w.heap.size) (n : Nat) : ROk P T (some m) G none n (vcRF P Γ D) := by
  intro f ps assign body s Q c a Q' h hs hQ
  simp only [vcRF, frc_eq] at h
  have hf := hs.eval f
  split at h
  · rename_i g caps hp
    rw [hp] at hf
    obtain ⟨hpc, items, hIT, F, I, hwk, hI0, hF, hend⟩ := h
    obtain ⟨us, ef, h2⟩ := hf.fn_inv
    obtain ⟨c0, hw0, hf0, hs0⟩ := hwk.2 T (some m) G hst c a hs
    have hcaps : F2 (R0 c.w c.ok) caps us := h2.imp fun av v ha hr => pureC_r0 hr (List.all_eq_true.1 hpc av ha)
    have hcaps0 : F2 (R0 c0.w c0.ok) caps us := hcaps.imp fun _ _ _ h => hf0.r0 hs.good.okd h
    have hmw := hm _ _ hs.tt
    refine wpIn_rangeFunc fun fn _ => ?_
    let X : LoopState → Option Code → Loop := fun st p => { state := st, pending := p, fn := fn, tmps := a.tmps, params := ps, assign := assign, body := body, defers := c.w.heap.size }
    let w1 : World := (c.w.alloc (.deferred (some []))).alloc (.loop (X .ready none))
    let mark : Deferred := { target := .collected c.w.heap.size, args := #[] }
    have henter := run_enterLoop_outer (P := P) (w := c.w) fn a.tmps ps assign body
    have hcall : (resolve a.eval (rangeCall f (c.w.heap.size + 1)) 0).run P w1 = .ok { target := .fn (.func g) us.toArray, args := #[Value.func (.yield (c.w.heap.size + 1)) #[] #[]] } w1 := by
      unfold resolve
      simp only [rangeCall]
      rw [ef]
      have e : (#[Operand.const (Value.func (.yield (c.w.heap.size + 1)) #[] #[])] : Array Operand).map a.eval = #[Value.func (.yield (c.w.heap.size + 1)) #[] #[]] := by simp [Act.eval]
      rw [e]
      simp [Deferred.ofValue]
    refine ⟨_, _, _, _, _, g, (Value.func (.yield (c.w.heap.size + 1)) #[] #[] :: us).toArray, w1, henter, hcall, fun _ _ => trivial, ?_, fun hd => by simp [Fx, Fence.wide] at hd, ?_⟩
    · have e : #[Value.func (.yield (c.w.heap.size + 1)) #[] #[]] ++ us.toArray = (Value.func (.yield (c.w.heap.size + 1)) #[] #[] :: us).toArray := by simp
      simp only [invoke, e]
      exact hIT.1 _ _
    · obtain ⟨rs, hdf⟩ := hs0.df
      have hsz : w1.heap.size = c.w.heap.size + 2 := by simp [w1]
      have hold : ∀ b, b < c.w.heap.size → w1.heap[b]? = c.w.heap[b]? := fun b hb => by
        rw [show w1.heap[b]? = (c.w.alloc (.deferred (some []))).heap[b]? from Below.heap_alloc _ _ _ (by simp; omega), Below.heap_alloc _ _ _ hb]
      let c1 : Cx := ⟨w1, c0.ok, c0.μ, c0.yl⟩
      have hev : Ev (fun _ => True) c0 c1 := ⟨by rw [hw0]; rfl, by rw [hw0]; rfl, by rw [hw0]; rfl, by rw [hw0]; show _ ≤ w1.heap.size; omega, fun b hb _ => by rw [hw0] at hb ⊢; exact hold b hb, rfl, rfl, rfl, by rw [hw0]; exact Nat.le_refl _⟩
      have hs1 := hs0.ev hse hdf hev (fun _ _ => trivial) fun _ _ => trivial
      have hd1 := hdf.ev hev fun _ _ => trivial
      have hlt0 : ∀ b, c0.own b ∨ c0.ok b → b < c.w.heap.size := fun b hb => by rw [← hw0]; exact hb.elim hs0.good.lt fun h => (hs0.good.okd b h).1
      have hrs := hdf.lt
      have hmark : Df (some m) c1 (mark :: a.defers) (c.w.heap.size :: rs) := by
        refine .cons rfl ?_ ⟨m, rfl, hmw⟩ (fun ho => by have := hlt0 _ (.inl ho); omega) (fun ho => by have := hlt0 _ (.inr ho); omega) (fun hr => by have := hrs _ hr; rw [hw0] at this; omega) hd1
        show w1.heap[c.w.heap.size]? = _
        rw [show w1.heap[c.w.heap.size]? = (c.w.alloc (.deferred (some []))).heap[c.w.heap.size]? from Below.heap_alloc _ _ _ (by simp)]
        exact heap_alloc_new _ _
      have hnl : c.w.heap.size + 1 ∉ c.w.heap.size :: rs := fun hr => by
        rcases List.mem_cons.1 hr with h | h
        · omega
        · have := hrs _ h; rw [hw0] at this; omega
      have hs1' : Sim T (some m) G (F 0) c1 { a with defers := mark :: a.defers } := ⟨hs1.sz, hs1.tm, hs1.good, hs1.gh, ⟨_, hmark⟩, hs1.tt⟩
      have hl1 : w1.heap[c.w.heap.size + 1]? = some (.loop (X .ready none)) := by
        have := heap_alloc_new (c.w.alloc (.deferred (some []))) (.loop (X .ready none))
        have e : (c.w.alloc (.deferred (some []))).heap.size = c.w.heap.size + 1 := by simp
        rw [e] at this
        exact this
      have hcons := cons_ok (P := P) (G := G) (fn := fn) (a := { a with defers := mark :: a.defers }) (df := c.w.heap.size) (rs := c.w.heap.size :: rs) hT hD hst hse (Q := Q) (items := items) (F := F) (I := I) (l := c.w.heap.size + 1) (by omega) hnl (nt := s.nt) hs.sz hF
      have hK0 : cK T (some m) G Q F I (c.w.heap.size + 1) X { a with defers := mark :: a.defers } (c.w.heap.size :: rs) (some 0) c1 :=
        ⟨fun ho => by have := hlt0 _ (.inl ho); omega, fun ho => by have := hlt0 _ (.inr ho); omega, hmark, hI0, hl1, hs1'⟩
      refine (hIT.2 (c.w.heap.size + 1) c1 us _ _ hcons hK0 (fun b hb => ?_) (fun b hb => (hs1.good.okd b hb).2) (hcaps0.imp fun _ _ _ h => hev.r0 (fun b hb => (hs0.good.okd b hb).1) h) (n - 1)).mono ?_
      · show b < w1.heap.size
        rcases hb with h | h | h
        · omega
        · omega
        · rcases List.mem_cons.1 h with h | h
          · omega
          · have := hrs _ h; rw [hw0] at this; omega
      · rintro e w' ⟨v, c', rfl, rfl, hK⟩
        have fin : ∀ (st : LoopState) (p : Option Code) (s' : St), c'.w.heap[c.w.heap.size + 1]? = some (.loop (X st p)) → ¬ c'.own (c.w.heap.size + 1) → ¬ c'.ok (c.w.heap.size + 1) → Df (some m) c' (mark :: a.defers) (c.w.heap.size :: rs) → Sim T (some m) G s' c' { a with defers := mark :: a.defers } →
            Sim T (some m) G s' ⟨c'.w.putObj (c.w.heap.size + 1) (.loop (X .exhausted p)), c'.ok, c'.μ, c'.yl⟩ { a with defers := mark :: a.defers } := fun st p s' h1 h2 h3 h4 h5 =>
          h5.ev hse h4 (ev_put h2 h3 _) (fun b ⟨m', hm', hb⟩ => by cases hm'; omega) fun r hr he => hnl (he ▸ hr)
        rcases hK with ⟨k1, k2, k3, kI, k4, k5⟩ | ⟨k1, k2, k3, e, j, s', k4, k5, k6, k7⟩
        · refine ⟨none, _, run_endLoop k4 (by simp), ?_⟩
          exact hQ _ _ _ _ (hend kI) (fin _ _ _ k4 k1 k2 k3 k5)
        · refine ⟨some j, _, run_endLoop k6 (by simp), ?_⟩
          have := fin _ _ _ k6 k1 k2 k3 k7
          cases e with
          | exit id => cases k4; exact wpIn_exit (hQ _ _ _ _ k5 this)
          | ret => cases k4; exact wpIn_ret (hQ _ _ _ _ k5 this)
          | _ => cases k4
  · exact h.elim
end
end Go.Proofs.Ytcmciimogcfakaa

/- The walk, all of it. -/
set_option linter.unusedVariables false
set_option linter.unusedSimpArgs false
namespace Go.Proofs.Ytcmciimogcfakaa
open Go Go.RowKit

/-- What a function's code asks. -/
noncomputable abbrev Vc (P : Program) (Γ : Nat → Option TI) : Code → (Exit → St → Prop) → St → Prop := vcC P Γ noY (vcDr P Γ) (vcRF P Γ (vcDr P Γ))
/-- What an iterator's code asks. -/
noncomputable abbrev Vi (P : Program) (Γ : Nat → Option TI) (items : List (List AV)) : Code → (Exit → St → Prop) → St → Prop := vcC P Γ (itY items) (vcDr P Γ) noR
section
variable {P : Program} {Γ : Nat → Option TI}
theorem fnOk (hm : P.follows .mixedOrders = true) (hT : TyOk P Γ) {f : FuncId} {fn : Func} {code : Code} {args : List AV} {r : AV} (hf : P.funcs[f]? = some fn) (hb : fn.body = some code) (hn : (fn.name == "runtime.NumGoroutine") = false)
    (hnt : Nat.ble args.length fn.ntmps = true) (h : Vc P Γ code (post Γ fn.results.toList r) (st0 args fn.ntmps)) : C P f args r :=
  contract hT hf hb hn (Nat.le_of_ble_eq_true hnt) (fun _ _ _ hst => draw_ok hm hT hst) (fun _ _ _ hst hse hmm => rf_ok hT (fun _ _ _ _ _ hst => draw_ok hm hT hst) hst hse hmm 0) h
theorem fnOkR (hm : P.follows .mixedOrders = true) (hT : TyOk P Γ) {f : FuncId} {fn : Func} {code : Code} {args : List AV} {ty sz : Nat} {xs : List (List AV)} (hf : P.funcs[f]? = some fn) (hb : fn.body = some code) (hn : (fn.name == "runtime.NumGoroutine") = false)
    (hnt : Nat.ble args.length fn.ntmps = true) (h : Vc P Γ code (postR Γ fn.results.toList ty sz xs) (st0 args fn.ntmps)) : CR P f args ty sz xs :=
  contractR hT hf hb hn (Nat.le_of_ble_eq_true hnt) (fun _ _ _ hst => draw_ok hm hT hst) (fun _ _ _ hst hse hmm => rf_ok hT (fun _ _ _ _ _ hst => draw_ok hm hT hst) hst hse hmm 0) h
theorem fnOkE (hm : P.follows .mixedOrders = true) (hT : TyOk P Γ) {f : FuncId} {fn : Func} {code : Code} {args : List AV} {L0 L1 : List Blk} {r : AV} (hf : P.funcs[f]? = some fn) (hb : fn.body = some code) (hn : (fn.name == "runtime.NumGoroutine") = false)
    (hnt : Nat.ble args.length fn.ntmps = true) (hal : L0.all Blk.alive = true) (hlen : L1.length = L0.length) (h : ∀ es : List Ent, es.length = L0.length → Vc P Γ code (postE Γ fn.results.toList r L1 (pins es)) (st0E args fn.ntmps L0 (pins es))) : CE P f args L0 r L1 :=
  contractE hT hf hb hn (Nat.le_of_ble_eq_true hnt) hal hlen (fun _ _ _ hst => draw_ok hm hT hst) (fun _ _ _ hst hse hmm => rf_ok hT (fun _ _ _ _ _ hst => draw_ok hm hT hst) hst hse hmm 0) h
theorem itOk (hm : P.follows .mixedOrders = true) (hT : TyOk P Γ) {f : FuncId} {fn : Func} {code : Code} {caps : List AV} {items : List (List AV)} (hf : P.funcs[f]? = some fn) (hb : fn.body = some code) (hn : (fn.name == "runtime.NumGoroutine") = false)
    (hres : fn.results = #[]) (hnt : Nat.ble (caps.length + 1) fn.ntmps = true) (h : Vi P Γ items code (itPost items.length) { st0 (.yld :: caps) fn.ntmps with y := some 0 }) : IT P f caps items :=
  iter hT hf hb hn hres (Nat.le_of_ble_eq_true hnt) (fun _ _ _ _ hst => draw_ok hm hT hst) h
end
end Go.Proofs.Ytcmciimogcfakaa

/- What a law is handed, as the walk tells it. -/
set_option linter.unusedVariables false
set_option linter.unusedSimpArgs false
namespace Go.Proofs.Ytcmciimogcfakaa
open Go Go.RowKit

section
variable (P : Program)
def consec : Nat → Nat → List Field → Bool
  | o, n, [] => Nat.beq o n
  | o, n, f :: fs => Nat.beq f.offset o && consec (o + P.cellsOf f.type) n fs
/-- Types of whole numbers, truth values, slices and structs of them. -/
def plainTy : Nat → TypeId → Bool
  | 0, _ => false
  | d + 1, t => match P.underlying t with
    | some (.int _) => Nat.beq (P.cellsOf t) 1
    | some .bool => Nat.beq (P.cellsOf t) 1
    | some (.slice e) => Nat.beq (P.cellsOf t) 1 && Nat.blt 0 (P.cellsOf e) && plainTy d e
    | some (.struct fs) => consec P 0 (P.cellsOf t) fs.toList && fs.toList.all fun f => plainTy d f.type
    | _ => false
def TypedL (T : TypeId → List AV → Prop) : List Field → List AV → Prop
  | [], avs => avs = []
  | f :: fs, avs => ∃ x y, avs = x ++ y ∧ T f.type x ∧ TypedL T fs y
def Typed : Nat → TypeId → List AV → Prop
  | 0, _, _ => False
  | d + 1, t, avs => match P.underlying t with
    | some (.int k) => ∃ n, avs = [.int k n] ∧ (Lit.int k n).wf = true
    | some .bool => ∃ b, avs = [.bool b]
    | some (.slice e) => ∃ xs, avs = [.sl xs] ∧ (∀ x ∈ xs, Typed d e x) ∧ xs.length * P.bytesOf e ≤ reachBytes
    | some (.struct fs) => TypedL (Typed d) fs.toList avs
    | _ => False
end
theorem pick_list {α : Type} {p : Nat → α → Prop} : ∀ (n : Nat), (∀ i, i < n → ∃ x, p i x) → ∃ l : List α, l.length = n ∧ ∀ i x, l[i]? = some x → p i x
  | 0, _ => ⟨[], rfl, fun i x h => by simp at h⟩
  | n + 1, h => by
    obtain ⟨l, hl, hp⟩ := pick_list n fun i hi => h i (by omega)
    obtain ⟨x, hx⟩ := h n (by omega)
    refine ⟨l ++ [x], by simp [hl], fun i y hy => ?_⟩
    by_cases hi : i < n
    · rw [List.getElem?_append_left (by omega)] at hy
      exact hp i y hy
    · rw [List.getElem?_append_right (by omega)] at hy
      by_cases hin : i = n
      · subst hin
        rw [hl, Nat.sub_self] at hy
        simp at hy
        subst hy
        exact hx
      · rw [List.getElem?_eq_none (by simp; omega)] at hy
        cases hy
section
variable {H : Type} {enc : TypeId × Value → H} {P : Program} {W : World} {base : Nat} {spare : Nat → Bool} {held : Bool}
theorem cells_list {n : Nat} {a : Addr} {cs : List Value} (h : W.cells? base a n = some cs) : cs.length = n ∧ ∀ i, i < n → ∃ v, cs[i]? = some v ∧ W.cell? (a.add i) = some v := by
  unfold World.cells? at h
  split at h
  · have key : ∀ (l : List Nat) (cs : List Value), (l.mapM fun i => W.cell? (a.add i)) = some cs → cs.length = l.length ∧ ∀ (i : Nat) (x : Nat), l[i]? = some x → ∃ v, cs[i]? = some v ∧ W.cell? (a.add x) = some v := by
      intro l
      induction l with
      | nil => intro cs h; simp at h; subst h; exact ⟨rfl, fun i x h => by simp at h⟩
      | cons y l ih =>
        intro cs h
        rw [List.mapM_cons] at h
        obtain ⟨v, hv, h⟩ := Option.bind_eq_some_iff.1 h
        obtain ⟨vs, hvs, h⟩ := Option.bind_eq_some_iff.1 h
        cases h
        obtain ⟨h1, h2⟩ := ih vs hvs
        refine ⟨by simp [h1], fun i x hx => ?_⟩
        cases i with
        | zero => simp at hx; subst hx; exact ⟨v, rfl, hv⟩
        | succ i => exact h2 i x (by simpa using hx)
    obtain ⟨h1, h2⟩ := key _ _ h
    exact ⟨by simpa using h1, fun i hi => h2 i i (by simp [hi])⟩
  · cases h
theorem weights_all {P : Program} {e : TypeId} : ∀ {l : List (DataW H)}, (DataW.weightsAll P e l).all (· ≤ reachBytes) = true → ∀ d ∈ l, (d.weights P e).all (· ≤ reachBytes) = true
  | [], _, d, hd => by cases hd
  | x :: l, h, d, hd => by
    simp only [DataW.weightsAll, List.all_append, Bool.and_eq_true] at h
    rcases List.mem_cons.1 hd with rfl | hd
    · exact h.1
    · exact weights_all h.2 d hd
theorem cell_plain {a : Addr} {v : Value} (h : W.cell? a = some v) : a.spot = none ∧ a.block < W.heap.size := by
  unfold World.cell? at h
  split at h
  · rename_i c _ _ hh
    refine ⟨?_, (Array.getElem?_eq_some_iff.1 hh).1⟩
    split at h
    · cases h
    · rename_i hs; simpa using hs
  · cases h
abbrev okW (W : World) (b : Nat) : Prop := b < W.heap.size
theorem read : ∀ (fuel : Nat) (dep : Nat) (t : TypeId) (cs : List Value) (x : DataW H × List MemPlace), DataW.trod enc P W base spare held fuel t cs = some x → plainTy P dep t = true → (x.1.weights P t).all (· ≤ reachBytes) = true →
    ∃ avs, F2 (R0 W (okW W)) avs cs ∧ Typed P dep t avs ∧ cs.length = P.cellsOf t := by
  intro fuel
  induction fuel with
  | zero => intro dep t cs x h; simp [DataW.trod] at h
  | succ fuel ih =>
    intro dep t cs x h hp hw
    cases dep with
    | zero => cases hp
    | succ dep =>
    simp only [plainTy] at hp
    simp only [Typed]
    cases hu : P.underlying t with
    | none => rw [hu] at hp; cases hp
    | some dsc =>
    rw [hu] at hp
    cases dsc <;> simp only at hp <;> try (cases hp; done)
    case int k =>
      obtain ⟨n, rfl, _, hwf⟩ := DataW.trod_int hu h
      exact ⟨[.int k n], .cons (.int k n) .nil, ⟨n, rfl, hwf⟩, (Nat.eq_of_beq_eq_true hp).symm⟩
    case bool =>
      obtain ⟨b, rfl, _⟩ := DataW.trod_bool hu h
      exact ⟨[.bool b], .cons (.bool b) .nil, ⟨b, rfl⟩, (Nat.eq_of_beq_eq_true hp).symm⟩
    case struct fs =>
      rw [Bool.and_eq_true] at hp
      obtain ⟨xs, n, hn, rfl, hcl, hxl, hxs⟩ := DataW.trod_struct hu h
      cases hn
      have hw' : (DataW.weightsEach P (fs.toList.map (·.type)) (xs.map (·.1))).all (· ≤ reachBytes) = true := by
        simpa [DataW.weights, hu] using hw
      have key : ∀ (fl : List Field) (o : Nat) (xl : List (DataW H × List MemPlace)), consec P o (P.cellsOf t) fl = true → (∀ f ∈ fl, plainTy P dep f.type = true) → o ≤ P.cellsOf t → (∀ (i : Nat) (f : Field), fl[i]? = some f → DataW.trod enc P W base spare held fuel f.type ((cs.drop f.offset).take (P.cellsOf f.type)) = xl[i]?) → xl.length = fl.length →
          (DataW.weightsEach P (fl.map (·.type)) (xl.map (·.1))).all (· ≤ reachBytes) = true → ∃ avs, F2 (R0 W (okW W)) avs (cs.drop o) ∧ TypedL (Typed P dep) fl avs := by
        intro fl
        induction fl with
        | nil =>
          intro o xl hc _ _ _ _ _
          have := Nat.eq_of_beq_eq_true hc
          refine ⟨[], ?_, rfl⟩
          rw [List.drop_eq_nil_of_le (by omega)]
          exact .nil
        | cons f fl ihf =>
          intro o xl hc hpl ho hx hl hw
          simp only [consec, Bool.and_eq_true] at hc
          have hoff := Nat.eq_of_beq_eq_true hc.1
          cases xl with
          | nil => simp at hl
          | cons x xl =>
            have h0 := hx 0 f rfl
            simp only [List.getElem?_cons_zero] at h0
            simp only [List.map_cons, DataW.weightsEach, List.all_append, Bool.and_eq_true] at hw
            obtain ⟨avs, g1, g2, g3⟩ := ih dep f.type _ x h0 (hpl f (by simp)) hw.1
            rw [List.length_take, List.length_drop, hoff] at g3
            have hle : o + P.cellsOf f.type ≤ cs.length ∨ P.cellsOf f.type = 0 := by omega
            have ho' : o + P.cellsOf f.type ≤ P.cellsOf t := by omega
            obtain ⟨avs', g4, g5⟩ := ihf (o + P.cellsOf f.type) xl hc.2 (fun f' hf' => hpl f' (by simp [hf'])) ho' (fun i f' hf' => hx (i + 1) f' (by simpa using hf')) (by simpa using hl) hw.2
            refine ⟨avs ++ avs', ?_, avs, avs', rfl, g2, g5⟩
            have := g1.append g4
            rw [hoff, ← List.drop_drop, List.take_append_drop] at this
            exact this
      obtain ⟨avs, g1, g2⟩ := key fs.toList 0 xs hp.1 (fun f hf => List.all_eq_true.1 hp.2 f hf) (Nat.zero_le _) (fun i f hf => hxs i f (by simpa using hf)) (by simpa using hxl) hw'
      exact ⟨avs, g1, g2, hcl⟩
    case slice e =>
      rw [Bool.and_eq_true, Bool.and_eq_true] at hp
      obtain ⟨⟨hc1, hc0⟩, hpe⟩ := hp
      have hc0 : 0 < P.cellsOf e := by simpa [Nat.blt_eq] using hc0
      have hc1 := Nat.eq_of_beq_eq_true hc1
      rcases DataW.trod_slice hu h with ⟨rfl, rfl⟩ | ⟨a, len, cap, elems, rest, n, hn, rfl, rfl, hb, hl, hm, hlen, hel, hsp, hns⟩
      · exact ⟨[.sl []], .cons (.sle none 0) .nil, ⟨[], rfl, by simp, by simp⟩, by simp [hc1]⟩
      · cases hn
        have hw' : (elems.length + rest.length) * P.bytesOf e ≤ reachBytes ∧ (DataW.weightsAll P e (elems.map (·.1))).all (· ≤ reachBytes) = true := by
          simp only [DataW.weights, hu, List.all_cons, List.all_append, Bool.and_eq_true, decide_eq_true_eq, List.length_map] at hw
          exact ⟨hw.1, hw.2.1⟩
        have hone : ∀ i, i < len → ∃ y : List AV × List Value, F2 (R0 W (okW W)) y.1 y.2 ∧ Typed P dep e y.1 ∧ y.2.length = P.cellsOf e ∧ W.cells? base (a.add (i * P.cellsOf e)) (P.cellsOf e) = some y.2 := fun i hi => by
          have h1 := hel i hi
          rw [List.getElem?_eq_getElem (by omega)] at h1
          obtain ⟨cs', h2, h3⟩ := Option.bind_eq_some_iff.1 h1
          obtain ⟨avs, g1, g2, g3⟩ := ih dep e cs' _ h3 hpe (weights_all hw'.2 _ (List.mem_map.2 ⟨_, List.getElem_mem _, rfl⟩))
          exact ⟨(avs, cs'), g1, g2, g3, h2⟩
        obtain ⟨ys, hyl, hys⟩ := pick_list len hone
        have hyx : ∀ x ∈ ys.map (·.1), x.length = P.cellsOf e ∧ Typed P dep e x := fun x hx => by
          obtain ⟨y, hy, rfl⟩ := List.mem_map.1 hx
          obtain ⟨i, hi⟩ := List.mem_iff_getElem?.1 hy
          obtain ⟨g1, g2, g3, _⟩ := hys i y hi
          exact ⟨by rw [g1.length]; exact g3, g2⟩
        have hty : ∃ xs, ([AV.sl (ys.map (·.1))] : List AV) = [.sl xs] ∧ (∀ x ∈ xs, Typed P dep e x) ∧ xs.length * P.bytesOf e ≤ reachBytes := by
          refine ⟨_, rfl, fun x hx => (hyx x hx).2, ?_⟩
          have : len * P.bytesOf e ≤ (elems.length + rest.length) * P.bytesOf e := Nat.mul_le_mul_right _ (by omega)
          rw [List.length_map, hyl]
          omega
        refine ⟨[.sl (ys.map (·.1))], .cons ?_ .nil, hty, by simp [hc1]⟩
        rcases Nat.eq_zero_or_pos len with h0 | h0
        · obtain rfl : ys = [] := List.eq_nil_of_length_eq_zero (by omega)
          rw [h0]
          exact .sle _ _
        · have hcell : ∀ j, j < len * P.cellsOf e → ∃ i y r v, i < len ∧ ys[i]? = some y ∧ r < P.cellsOf e ∧ j = i * P.cellsOf e + r ∧ y.2[r]? = some v ∧ W.cell? (a.add j) = some v := fun j hj => by
            have hi : j / P.cellsOf e < len := (Nat.div_lt_iff_lt_mul hc0).2 hj
            have hy : ys[j / P.cellsOf e]? = some ys[j / P.cellsOf e] := List.getElem?_eq_getElem (by omega)
            obtain ⟨_, _, _, g4⟩ := hys _ _ hy
            obtain ⟨v, hv1, hv2⟩ := (cells_list g4).2 (j % P.cellsOf e) (Nat.mod_lt _ hc0)
            have hd : j / P.cellsOf e * P.cellsOf e + j % P.cellsOf e = j := by rw [Nat.mul_comm]; exact Nat.div_add_mod _ _
            refine ⟨_, _, _, v, hi, hy, Nat.mod_lt _ hc0, hd.symm, hv1, ?_⟩
            rw [← hv2]
            congr 1
            have hadd : ∀ (a : Addr) (m k : Nat), (a.add m).add k = a.add (m + k) := fun a m k => by
              obtain ⟨b, o, s⟩ := a
              unfold Addr.add
              split <;> split <;> simp_all <;> omega
            rw [hadd, hd]
          obtain ⟨_, _, _, v0, _, _, _, _, _, hv0⟩ := hcell 0 (Nat.mul_pos h0 hc0)
          have hsp0 : a.spot = none ∧ a.block < W.heap.size := by
            have := cell_plain hv0
            have e0 : a.add 0 = a := by
              obtain ⟨b, o, s⟩ := a
              unfold Addr.add
              split <;> simp_all
            rw [e0] at this
            exact this
          obtain ⟨b, off, sp⟩ := a
          obtain ⟨rfl, hbl⟩ := hsp0
          have hlx : (ys.map (·.1)).length = len := by simpa using hyl
          have := R0.sl (w := W) (ok := okW W) (xs := ys.map (·.1)) b off (P.cellsOf e) cap (fun j => (W.cell? ⟨b, off + j, none⟩).getD undef) hbl (by rw [hlx]; exact hl) (fun x hx => (hyx x hx).1) (fun j hj => by
            rw [hlx] at hj
            obtain ⟨_, _, _, v, _, _, _, _, _, hv⟩ := hcell j hj
            rw [add_at] at hv
            rw [hv]; rfl) (fun j av hav => by
            have hj : j < len * P.cellsOf e := by
              have := (List.getElem?_eq_some_iff.1 hav).1
              rw [flatten_len (fun x hx => (hyx x hx).1), hlx] at this
              exact this
            obtain ⟨i, y, r, v, hi, hy, hr, rfl, hv1, hv⟩ := hcell j hj
            rw [flatten_get (fun x hx => (hyx x hx).1) (by rw [List.getElem?_map, hy]; rfl) hr] at hav
            obtain ⟨g1, _⟩ := hys i y hy
            obtain ⟨u, hu', hrel⟩ := g1.get r hav
            rw [hv1] at hu'
            cases hu'
            rw [add_at] at hv
            simp only [hv, Option.getD_some]
            exact hrel)
          rw [hlx] at this
          exact this
end
end Go.Proofs.Ytcmciimogcfakaa
