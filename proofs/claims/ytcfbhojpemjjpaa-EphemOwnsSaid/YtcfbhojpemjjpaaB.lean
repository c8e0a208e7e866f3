/- A function's contract from its body. -/
import Derived.Test.YtcfbhojpemjjpaaX
set_option linter.unusedVariables false
set_option linter.unusedSimpArgs false
namespace Go.Proofs.Ytcfbhojpemjjpaa
open Go Go.RowKit

theorem post_eq (Γ : Nat → Option TI) (rs : List ResultVar) (r : AV) (e : Exit) (s : St) (h : post Γ rs r e s) : (e = .normal ∨ e = .ret) ∧ resAll Γ s rs fun vs => pur s.L (fun _ => true) 8 (resV vs) = r := by
  cases e <;> first | exact ⟨.inl rfl, h⟩ | exact ⟨.inr rfl, h⟩ | exact h.elim
def resSem (tmps : Array Value) : ResultVar → Sem Value
  | .tmp t => pure (tmps.getD t undef)
  | .cell a t => do loadVar t (← asAddr (tmps.getD a undef))
theorem results_eq (fn : Func) (tmps : Array Value) : results fn tmps = (do let vs ← fn.results.mapM (resSem tmps); pure (if h : vs.size = 1 then vs[0] else .tuple vs)) := by
  unfold results
  congr 1
section
variable {P : Program} {Γ : Nat → Option TI} {c : Cx}
theorem resOne_sound (hT : TyOk P Γ) {s : St} {tmps : Array Value} (hg : Good c s.L) (ht : ∀ i, Rel c (s.t i) (tmps.getD i undef)) {r : ResultVar} {k : AV → Prop} (h : resOne Γ s r k) :
    ∃ a v, k a ∧ Rel c a v ∧ (resSem tmps r).run P c.w = .ok v c.w := by
  cases r with
  | tmp t =>
    simp only [resOne, frc_eq] at h
    exact ⟨_, _, h, ht t, rfl⟩
  | cell t ty =>
    simp only [resOne, frc_eq] at h
    have hx := ht t
    split at h
    · rename_i i hi
      have hi := hT _ _ hi
      split at h
      · rename_i b q hp
        rw [hp] at hx
        obtain ⟨e, hμ, hn, he⟩ := hx.ptr_inv
        obtain ⟨e', hμ', hB⟩ := hg.blk b (hg.dom b e hμ)
        rw [hμ] at hμ'; cases hμ'
        split at h
        · rename_i ty' cs hL
          rw [hL] at hB
          cases hB with
          | box vs _ hh h2 =>
          have hlen := h2.length
          obtain ⟨av, v, hk, hr, hv⟩ := ldC_sound (b := e.b) (off := 0 * e.sz + q) (us := fun z => vs.getD (q + z) undef) hi (c := c) (fun z hz => by
            rw [List.length_drop] at hz
            rw [cell_of hh, List.getD_eq_getElem?_getD, Nat.zero_mul, Nat.zero_add, List.getElem?_toArray, List.getElem?_eq_getElem (by omega)]
            rfl) (fun z av hz => by
            rw [List.getElem?_drop] at hz
            obtain ⟨v, hv, hr'⟩ := h2.get _ hz
            rw [List.getD_eq_getElem?_getD, hv]
            exact hr') h
          refine ⟨av, v, hk, hv, ?_⟩
          simpa [resSem, Instr.loadAt, Instr.sureAddr, asAddr, he] using hr
        · exact h.elim
      · exact h.elim
    · exact h.elim
theorem resAll_sound (hT : TyOk P Γ) {s : St} {tmps : Array Value} (hg : Good c s.L) (ht : ∀ i, Rel c (s.t i) (tmps.getD i undef)) : ∀ (rs : List ResultVar) {k : List AV → Prop}, resAll Γ s rs k →
    ∃ as vs, k as ∧ F2 (Rel c) as vs ∧ (rs.mapM (resSem tmps)).run P c.w = .ok vs c.w
  | [], k, h => ⟨[], [], h, .nil, rfl⟩
  | r :: rs, k, h => by
    obtain ⟨a, v, h1, hr, hrun⟩ := resOne_sound hT hg ht h
    obtain ⟨as, vs, h2, hrs, hruns⟩ := resAll_sound hT hg ht rs h1
    refine ⟨a :: as, v :: vs, h2, .cons hr hrs, ?_⟩
    rw [List.mapM_cons]
    simp only [Sem.run_bind]
    simp only [hrun, Result.andThen_ok, hruns, Sem.run_pure]
theorem results_sound (hT : TyOk P Γ) {fn : Func} {s : St} {tmps : Array Value} (hg : Good c s.L) (ht : ∀ i, Rel c (s.t i) (tmps.getD i undef)) {r : AV} (h : resAll Γ s fn.results.toList fun vs => pur s.L (fun _ => true) 8 (resV vs) = r) :
    ∃ v, (results fn tmps).run P c.w = .ok v c.w ∧ R0 c.w (okF c (fun _ => true)) r v := by
  obtain ⟨as, vs, hk, h2, hrun⟩ := resAll_sound hT hg ht fn.results.toList h
  have hr : Rel c (resV as) (if h : vs.toArray.size = 1 then vs.toArray[0] else .tuple vs.toArray) := by
    rcases vs with _ | ⟨v, _ | ⟨v', vs⟩⟩
    · cases h2; exact .tup (cs := []) (vs := []) rfl fun i a v h => by simp at h
    · cases h2 with
      | cons hr ht => cases ht; simpa [resV] using hr
    · cases h2 with
      | cons hr ht => cases ht with
        | cons hr' ht' =>
          rw [dif_neg (by simp)]
          have h3 := F2.cons hr (F2.cons hr' ht')
          exact .tup h3.length fun i a v ha hv => by
            obtain ⟨u, hu, hr⟩ := h3.get i ha
            rw [hu] at hv; cases hv
            exact hr
  refine ⟨_, ?_, hk ▸ pur_sound hg (fun _ => true) 8 _ _ hr⟩
  simp only [results_eq, Array.mapM_eq_mapM_toList, Sem.run_bind, Sem.run_map]
  rw [hrun]
  rfl
/-- A mark is taken: nothing that the walk knows turns. -/
theorem mark_step {L : Nat → Blk} {c0 : Cx} {r : Nat} (hg : Good c L) (ho : ¬ c.own r) (hk : ¬ c.ok r) (hb : c0.w.heap.size ≤ r) (hfr : Fr c0 c) (ob : Obj) :
    Good ⟨c.w.putObj r ob, c.ok, c.μ, c.yl⟩ L ∧ (∀ a v, Rel c a v → Rel ⟨c.w.putObj r ob, c.ok, c.μ, c.yl⟩ a v) ∧ Fr c0 ⟨c.w.putObj r ob, c.ok, c.μ, c.yl⟩ := by
  have hh : ∀ b, b ≠ r → (c.w.putObj r ob).heap[b]? = c.w.heap[b]? := fun b hb => World.putObj_heap_other hb
  have hsz : (c.w.putObj r ob).heap.size = c.w.heap.size := by simp
  have hr0 : ∀ a v, R0 c.w c.ok a v → R0 (c.w.putObj r ob) c.ok a v := fun a v h => h.mono (fun _ h => h) fun b hb => hh b fun he => hk (he ▸ hb)
  have hrel : ∀ a v, Rel c a v → Rel ⟨c.w.putObj r ob, c.ok, c.μ, c.yl⟩ a v := fun a v h => Rel.mono (d := ⟨c.w.putObj r ob, c.ok, c.μ, c.yl⟩) hr0 rfl (fun _ _ h => h) h
  refine ⟨⟨fun i hi => ?_, hg.dom, hg.inj, fun b hb => ⟨by show b < (c.w.putObj r ob).heap.size; rw [hsz]; exact (hg.okd b hb).1, (hg.okd b hb).2⟩⟩, hrel, ⟨hfr.os, hfr.tape, hfr.output, by show _ ≤ (c.w.putObj r ob).heap.size; rw [hsz]; exact hfr.size, fun b hb' hno => ?_, hfr.own, hfr.ok, hfr.mono, hfr.yl⟩⟩
  · obtain ⟨e, he, hr⟩ := hg.blk i hi
    exact ⟨e, he, hr.keep hrel hr0 fun hn => hh _ fun hbr => ho ⟨i, e, he, hn, hbr⟩⟩
  · show (c.w.putObj r ob).heap[b]? = _
    rw [hh b (by omega)]
    exact hfr.same b hb' hno
theorem leaves_marksG {Φ : Cx → Value → Prop} {fn : Func} {F : Fence} {n : Nat} {c0 : Cx} {s : St} {tmps : Array Value} {R : Ending → World → Prop} (h : ∀ d, Good d s.L → (∀ i, Rel d (s.t i) (tmps.getD i undef)) → ∃ v, (results fn tmps).run P d.w = .ok v d.w ∧ Φ d v)
    (hR : ∀ v d, Good d s.L → Fr c0 d → Φ d v → R (.returned v) d.w) : ∀ (ds : List Deferred) (rs : List Nat) (d : Cx), Good d s.L → (∀ i, Rel d (s.t i) (tmps.getD i undef)) → Fr c0 d → Df (some c0.w.heap.size) d ds rs → LeavesInM F n P fn tmps R ds .returning d.w
  | [], rs, d, hg, ht, hf, hd => by
    obtain ⟨v, hrun, hv⟩ := h d hg ht
    exact ⟨v, hrun, hR v d hg hf hv⟩
  | x :: ds, rs, d, hg, ht, hf, hd => by
    cases hd with
    | @cons _ _ r rs htg hh hb ho hk hn hd =>
    obtain ⟨m, hm, hb⟩ := hb
    cases hm
    obtain ⟨g1, g2, g3⟩ := mark_step hg ho hk hb hf (.deferred none)
    refine ⟨by simp, .inl ⟨r, _, htg, run_takeDeferred hh, ?_⟩⟩
    refine leaves_marksG h hR ds rs _ g1 (fun i => g2 _ _ (ht i)) g3 ?_
    clear g1 g2 g3 htg hh
    induction hd with
    | nil => exact .nil
    | @cons y ys q qs ht' hh' hb' ho' hk' hn' _ ih =>
      have hqr : q ≠ r := fun he => hn (by simp [he])
      exact .cons ht' (by show (d.w.putObj r _).heap[q]? = _; rw [World.putObj_heap_other hqr]; exact hh') hb' ho' hk' hn' (ih fun h => hn (by simp [h]))

theorem leaves_marks (hT : TyOk P Γ) {fn : Func} {F : Fence} {n : Nat} {c0 : Cx} {s : St} {tmps : Array Value} {r : AV} {R : Ending → World → Prop} (h : resAll Γ s fn.results.toList fun vs => pur s.L (fun _ => true) 8 (resV vs) = r)
    (hR : ∀ v d, Good d s.L → Fr c0 d → R0 d.w (okF d (fun _ => true)) r v → R (.returned v) d.w) (ds : List Deferred) (rs : List Nat) (d : Cx) (hg : Good d s.L) (ht : ∀ i, Rel d (s.t i) (tmps.getD i undef)) (hf : Fr c0 d) (hd : Df (some c0.w.heap.size) d ds rs) : LeavesInM F n P fn tmps R ds .returning d.w :=
  leaves_marksG (Φ := fun d v => R0 d.w (okF d (fun _ => true)) r v) (fun d hg ht => results_sound hT hg ht h) hR ds rs d hg ht hf hd

theorem contract (hT : TyOk P Γ) {D : List Oper → St → (St → Prop) → Prop} {R : Operand → Array Tmp → Code → Code → (Exit → St → Prop) → St → Prop} {f : FuncId} {fn : Func} {code : Code} {args : List AV} {r : AV} (hf : P.funcs[f]? = some fn) (hb : fn.body = some code) (hn : (fn.name == "runtime.NumGoroutine") = false)
    (hnt : args.length ≤ fn.ntmps) (hD : ∀ T base G, Stable T → DOk P T base G none 0 D) (hR : ∀ T m G, Stable T → StE T (some m) → (∀ y c, T y c → m ≤ c.w.heap.size) → ROk P T (some m) G none 0 R) (h : vcC P Γ noY D R code (post Γ fn.results.toList r) (st0 args fn.ntmps)) : C P f args r := by
  refine ⟨fun as w => by have hn' : ¬ fn.name = "runtime.NumGoroutine" := (by simpa using hn); simp [callFunc, hf, hn', hb], fun c vs hg hv => ?_⟩
  refine callsIn_of_wp_marks hf hb trivial ?_
  have hst : Stable (fun _ d => Fr c d) := fun _ _ _ h1 h2 => h2.trans h1
  have hse : StE (fun _ d => Fr c d) (some c.w.heap.size) := fun _ d d' he hf => by
    have hown : ∀ b, d'.own b → d.own b := fun b ⟨i, e, hi, hn, hb⟩ => ⟨i, e, by rw [← he.μ]; exact hi, hn, hb⟩
    exact ⟨he.os.trans hf.os, he.tape.trans hf.tape, he.output.trans hf.output, Nat.le_trans hf.size he.size, fun b hb hno => by
      rw [he.same b (Nat.lt_of_lt_of_le hb hf.size) (.inl ⟨_, rfl, hb⟩), hf.same b hb hno], fun b hb => hf.own b (hown b hb), fun b hb => hf.ok b (by rw [← he.ok]; exact hb), fun b hb => by rw [he.ok]; exact hf.mono b hb, he.yl.trans hf.yl⟩
  have hl := hv.length
  have hs : Sim (fun _ d => Fr c d) (some c.w.heap.size) [] (st0 args fn.ntmps) c { tmps := vs.toArray ++ Array.replicate (fn.ntmps - vs.toArray.size) undef, defers := [] } := by
    refine ⟨by simp [st0]; omega, fun i => ?_, ⟨fun i hi => by simp [st0, Blk.alive] at hi, fun i e he => ?_, hg.inj, hg.okd⟩, .nil, ⟨[], .nil⟩, Fr.refl c⟩
    · show Rel c (arg args i) _
      unfold arg
      rw [Array.getD_eq_getD_getElem?]
      cases ha : args[i]? with
      | some v =>
        obtain ⟨u, hu, hr⟩ := hv.get i ha
        have hlt : i < vs.length := (List.getElem?_eq_some_iff.1 hu).1
        rw [Array.getElem?_append_left (by simpa using hlt)]
        simp only [List.getElem?_toArray, hu, Option.getD_some]
        exact hr
      | none =>
        have hge := List.getElem?_eq_none_iff.1 ha
        rw [Array.getElem?_append_right (by simp; omega), Array.getElem?_replicate]
        have : ∀ p : Prop, [Decidable p] → (if p then some undef else none).getD undef = undef := fun p _ => by split <;> rfl
        rw [this]
        exact .pure .und
    · have := hg.dom i e he
      simp [lk, Blk.alive] at this
  refine vcC_sound (ρ := none) hT hst (noY_ok _ _ _ _ _ _) (hD _ _ _ hst) (hR _ _ _ hst hse fun _ _ hf => hf.size) code _ c _ _ _ h hs fun e s' d a' hk hs' => ?_
  obtain ⟨he, hres⟩ := post_eq _ _ _ _ _ hk
  obtain ⟨rs, hdf⟩ := hs'.df
  have key : LeavesInM Fence.wide 0 P fn a'.tmps (fun e w' => ∃ v d, d.w = w' ∧ e = .returned v ∧ Fr c d ∧ Good d (lk []) ∧ Rel d r v ∧ ∀ i, i < ([] : List Blk).length → (lk [] i).alive = true → d.μ i = c.μ i) a'.defers .returning d.w := by
    refine leaves_marks hT (c0 := c) hres (fun v d hgd hfd hrv => ?_) a'.defers rs d hs'.good hs'.tm hs'.tt hdf
    refine ⟨v, ⟨d.w, okF d (fun _ => true), fun _ => none, d.yl⟩, rfl, rfl, ⟨hfd.os, hfd.tape, hfd.output, hfd.size, hfd.same, fun b ⟨i, e, he, _⟩ => (by cases he), fun b hb => ?_, fun b hb => .inl (hfd.mono b hb), hfd.yl⟩, ?_, .pure hrv, fun i hi => by simp at hi⟩
    · rcases hb with hb | ⟨i, e, _, he, hn, hbe⟩
      · exact hfd.ok b hb
      · exact .inr (hfd.own b ⟨i, e, he, hn, hbe⟩)
    · exact good_nil (fun b hb => hb.elim (fun h => (hgd.okd b h).1) fun ⟨i, e, _, he, hn, hbe⟩ => hgd.lt ⟨i, e, he, hn, hbe⟩) fun _ => rfl
  rcases he with rfl | rfl
  · exact key
  · exact key
/-- The body's end is a row of its own making. -/
def rowEnd (Γ : Nat → Option TI) (rs : List ResultVar) (ty sz : Nat) (xs : List (List AV)) (s : St) : Prop := ∃ s', Wk s s' ∧ resAll Γ s' rs fun vs => ∃ b, vs = [.rowf b] ∧ s'.L b = .rows ty sz xs
def postR (Γ : Nat → Option TI) (rs : List ResultVar) (ty sz : Nat) (xs : List (List AV)) : Exit → St → Prop
  | .normal, s => rowEnd Γ rs ty sz xs s
  | .ret, s => rowEnd Γ rs ty sz xs s
  | _, _ => False
theorem postR_eq (Γ : Nat → Option TI) (rs : List ResultVar) (ty sz : Nat) (xs : List (List AV)) (e : Exit) (s : St) (h : postR Γ rs ty sz xs e s) : (e = .normal ∨ e = .ret) ∧ rowEnd Γ rs ty sz xs s := by
  cases e <;> first | exact ⟨.inl rfl, h⟩ | exact ⟨.inr rfl, h⟩ | exact h.elim
theorem contractR (hT : TyOk P Γ) {D : List Oper → St → (St → Prop) → Prop} {R : Operand → Array Tmp → Code → Code → (Exit → St → Prop) → St → Prop} {f : FuncId} {fn : Func} {code : Code} {args : List AV} {ty sz : Nat} {xs : List (List AV)} (hf : P.funcs[f]? = some fn) (hb : fn.body = some code) (hn : (fn.name == "runtime.NumGoroutine") = false)
    (hnt : args.length ≤ fn.ntmps) (hD : ∀ T base G, Stable T → DOk P T base G none 0 D) (hR : ∀ T m G, Stable T → StE T (some m) → (∀ y c, T y c → m ≤ c.w.heap.size) → ROk P T (some m) G none 0 R) (h : vcC P Γ noY D R code (postR Γ fn.results.toList ty sz xs) (st0 args fn.ntmps)) : CR P f args ty sz xs := by
  refine ⟨fun as w => by have hn' : ¬ fn.name = "runtime.NumGoroutine" := (by simpa using hn); simp [callFunc, hf, hn', hb], fun c vs hg hv => ?_⟩
  refine callsIn_of_wp_marks hf hb trivial ?_
  have hst : Stable (fun _ d => Fr c d) := fun _ _ _ h1 h2 => h2.trans h1
  have hse : StE (fun _ d => Fr c d) (some c.w.heap.size) := fun _ d d' he hf => by
    have hown : ∀ b, d'.own b → d.own b := fun b ⟨i, e, hi, hn, hb⟩ => ⟨i, e, by rw [← he.μ]; exact hi, hn, hb⟩
    exact ⟨he.os.trans hf.os, he.tape.trans hf.tape, he.output.trans hf.output, Nat.le_trans hf.size he.size, fun b hb hno => by
      rw [he.same b (Nat.lt_of_lt_of_le hb hf.size) (.inl ⟨_, rfl, hb⟩), hf.same b hb hno], fun b hb => hf.own b (hown b hb), fun b hb => hf.ok b (by rw [← he.ok]; exact hb), fun b hb => by rw [he.ok]; exact hf.mono b hb, he.yl.trans hf.yl⟩
  have hl := hv.length
  have hs : Sim (fun _ d => Fr c d) (some c.w.heap.size) [] (st0 args fn.ntmps) c { tmps := vs.toArray ++ Array.replicate (fn.ntmps - vs.toArray.size) undef, defers := [] } := by
    refine ⟨by simp [st0]; omega, fun i => ?_, ⟨fun i hi => by simp [st0, Blk.alive] at hi, fun i e he => ?_, hg.inj, hg.okd⟩, .nil, ⟨[], .nil⟩, Fr.refl c⟩
    · show Rel c (arg args i) _
      unfold arg
      rw [Array.getD_eq_getD_getElem?]
      cases ha : args[i]? with
      | some v =>
        obtain ⟨u, hu, hr⟩ := hv.get i ha
        have hlt : i < vs.length := (List.getElem?_eq_some_iff.1 hu).1
        rw [Array.getElem?_append_left (by simpa using hlt)]
        simp only [List.getElem?_toArray, hu, Option.getD_some]
        exact hr
      | none =>
        have hge := List.getElem?_eq_none_iff.1 ha
        rw [Array.getElem?_append_right (by simp; omega), Array.getElem?_replicate]
        have : ∀ p : Prop, [Decidable p] → (if p then some undef else none).getD undef = undef := fun p _ => by split <;> rfl
        rw [this]
        exact .pure .und
    · have := hg.dom i e he
      simp [lk, Blk.alive] at this
  refine vcC_sound (ρ := none) hT hst (noY_ok _ _ _ _ _ _) (hD _ _ _ hst) (hR _ _ _ hst hse fun _ _ hf => hf.size) code _ c _ _ _ h hs fun e s' d a' hk hs' => ?_
  obtain ⟨he, s1, hwk, hres⟩ := postR_eq _ _ _ _ _ _ _ hk
  obtain ⟨d1, hd1, hf1, hs1⟩ := hwk.2 _ _ _ hst d a' hs'
  obtain ⟨rs, hdf⟩ := hs1.df
  have key : LeavesInM Fence.wide 0 P fn a'.tmps (fun e w' => ∃ v d, d.w = w' ∧ e = .returned v ∧ Fr c d ∧ Good d (lk [.rows ty sz xs]) ∧ Rel d (.rowf 0) v ∧ ∀ i, i < ([] : List Blk).length → (lk [.rows ty sz xs] i).alive = true → d.μ i = c.μ i) a'.defers .returning d1.w := by
    refine leaves_marksG (c0 := c) (s := s1) (Φ := fun d v => ∃ b, Rel d (.rowf b) v ∧ s1.L b = .rows ty sz xs) (fun d hg ht => ?_) (fun v d hgd hfd hrv => ?_) a'.defers rs d1 hs1.good hs1.tm hs1.tt hdf
    · obtain ⟨as, vs, hk, h2, hrun⟩ := resAll_sound hT hg ht fn.results.toList hres
      obtain ⟨b, rfl, hb⟩ := hk
      cases h2 with
      | cons hr ht' =>
      cases ht'
      refine ⟨_, ?_, b, hr, hb⟩
      simp only [results_eq, Array.mapM_eq_mapM_toList, Sem.run_bind, Sem.run_map]
      rw [hrun]
      rfl
    · obtain ⟨b, hr, hb⟩ := hrv
      obtain ⟨e0, he0, rfl⟩ := hr.rowf_inv
      obtain ⟨e1, he1, hB⟩ := hgd.blk b (by rw [hb]; rfl)
      rw [he0] at he1; cases he1
      rw [hb] at hB
      have hown : ∀ x, (⟨d.w, d.ok, fun i => match i with | 0 => some e0 | _ + 1 => none, d.yl⟩ : Cx).own x → d.own x := fun x ⟨i, e, hi, hn, hx⟩ => by
        cases i with
        | zero => cases hi; exact ⟨b, _, he0, hn, hx⟩
        | succ i => cases hi
      refine ⟨_, ⟨d.w, d.ok, fun i => match i with | 0 => some e0 | _ + 1 => none, d.yl⟩, rfl, rfl, ⟨hfd.os, hfd.tape, hfd.output, hfd.size, hfd.same, fun x hx => hfd.own x (hown x hx), hfd.ok, hfd.mono, hfd.yl⟩, ⟨fun i hi => ?_, fun i e he => ?_, fun i j e e' he he' _ _ _ => ?_, fun x hx => ⟨(hgd.okd x hx).1, fun ho => (hgd.okd x hx).2 (hown x ho)⟩⟩, .rowf (e := e0) rfl, fun i hi => by simp at hi⟩
      · cases i with
        | zero =>
          refine ⟨e0, rfl, ?_⟩
          show BlkRel _ (.rows ty sz xs) e0
          cases hB with
          | rows vs h1 h2 hs hn hz h0 h3 => exact .rows vs h1 h2 hs hn hz h0 h3
        | succ i => simp [lk, Blk.alive] at hi
      · cases i with
        | zero => rfl
        | succ i => cases he
      · cases i with
        | zero => cases j with
          | zero => rfl
          | succ j => cases he'
        | succ i => cases he
  rw [hd1] at key
  rcases he with rfl | rfl
  · exact key
  · exact key
end
end Go.Proofs.Ytcfbhojpemjjpaa
