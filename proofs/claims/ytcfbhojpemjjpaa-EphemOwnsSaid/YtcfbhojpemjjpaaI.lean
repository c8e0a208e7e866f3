/- An operation does what the walk says of it: what makes no blocks. -/
import Derived.Test.YtcfbhojpemjjpaaH
set_option linter.unusedVariables false
set_option linter.unusedSimpArgs false
namespace Go.Proofs.Ytcfbhojpemjjpaa
open Go Go.RowKit

def off_ok (e : Ent) (o cc m oo : Nat) : Prop := o + cc = e.cap ∧ o + m ≤ e.n ∧ (oo = o * e.sz ∨ cc = 0)
section inv
variable {c : Cx} {v : Value}
theorem Rel.int_inv {k : IntKind} {n : Int} (h : Rel c (.int k n) v) : v = .int k n := by cases h with | pure h => cases h; rfl
theorem Rel.bool_inv {b : Bool} (h : Rel c (.bool b) v) : v = .bool b := by cases h with | pure h => cases h; rfl
theorem Rel.nilsl_inv (h : Rel c .nilsl v) : v = .slice none 0 0 := by cases h with | pure h => cases h; rfl
theorem Rel.und_inv (h : Rel c .und v) : v = undef := by cases h with | pure h => cases h; rfl
theorem Rel.vptr_inv {cs : List AV} (h : Rel c (.vptr cs) v) : ∃ (b off : Nat) (us : Nat → Value), v = .pointer (some ⟨b, off, none⟩) ∧ c.ok b ∧ (∀ j, j < cs.length → c.w.cell? ⟨b, off + j, none⟩ = some (us j)) ∧ ∀ j a, cs[j]? = some a → R0 c.w c.ok a (us j) := by
  cases h with | pure h => cases h with | vptr b off us hb h1 h2 => exact ⟨b, off, us, rfl, hb, h1, h2⟩
theorem Rel.ptr_inv {i k j : Nat} (h : Rel c (.ptr i k j) v) : ∃ e, c.μ i = some e ∧ e.nil = false ∧ v = .pointer (some ⟨e.b, k * e.sz + j, none⟩) := by
  cases h with
  | pure h => cases h
  | ptr h hn => exact ⟨_, h, hn, rfl⟩
theorem Rel.rowf_inv {i : Nat} (h : Rel c (.rowf i) v) : ∃ e, c.μ i = some e ∧ v = e.val := by
  cases h with
  | pure h => cases h
  | rowf h => exact ⟨_, h, rfl⟩
theorem Rel.mp_inv {i : Nat} (h : Rel c (.mp i) v) : ∃ e, c.μ i = some e ∧ e.nil = false ∧ v = .map (some e.b) := by
  cases h with
  | pure h => cases h
  | mp h hn => exact ⟨_, h, hn, rfl⟩
theorem Rel.row_inv {i o m : Nat} (h : Rel c (.row i o m) v) : ∃ e, c.μ i = some e ∧ ((e.nil = false ∧ ∃ cc oo, off_ok e o cc m oo ∧ v = .slice (some ⟨e.b, oo, none⟩) m cc) ∨ (e.nil = true ∧ o = 0 ∧ m = 0 ∧ v = .slice none 0 0)) := by
  cases h with
  | pure h => cases h
  | row cc oo h hn ho hc hl => exact ⟨_, h, .inl ⟨hn, cc, oo, ⟨hc, hl, ho⟩, rfl⟩⟩
  | rown h hn => exact ⟨_, h, .inr ⟨hn, rfl, rfl, rfl⟩⟩
theorem Rel.agg_inv {cs : List AV} (h : Rel c (.agg cs) v) : ∃ vs : List Value, v = .agg vs.toArray ∧ F2 (Rel c) cs vs := by
  cases h with
  | pure h => cases h with | agg hl h => exact ⟨_, rfl, F2.of_get hl fun i a b ha hb => .pure (h i a b ha hb)⟩
  | agg hl h => exact ⟨_, rfl, F2.of_get hl h⟩
theorem Rel.tup_inv {cs : List AV} (h : Rel c (.tup cs) v) : ∃ vs : List Value, v = .tuple vs.toArray ∧ F2 (Rel c) cs vs := by
  cases h with
  | pure h => cases h with | tup hl h => exact ⟨_, rfl, F2.of_get hl fun i a b ha hb => .pure (h i a b ha hb)⟩
  | tup hl h => exact ⟨_, rfl, F2.of_get hl h⟩
theorem Rel.fn_inv {f : FuncId} {cs : List AV} (h : Rel c (.fn f cs) v) : ∃ vs : List Value, v = .func (.func f) #[] vs.toArray ∧ F2 (Rel c) cs vs := by
  cases h with
  | pure h => cases h with | fn f hl h => exact ⟨_, rfl, F2.of_get hl fun i a b ha hb => .pure (h i a b ha hb)⟩
  | fn f hl h => exact ⟨_, rfl, F2.of_get hl h⟩
theorem Rel.yld_inv (h : Rel c .yld v) : ∃ l, c.yl = some l ∧ v = .func (.yield l) #[] #[] := by
  cases h with
  | pure h => cases h
  | yld l h => exact ⟨l, h, rfl⟩
/-- A frozen slice: where it lies. -/
structure SlAt (c : Cx) (xs : List (List AV)) (v : Value) : Prop where
  at_ : ∃ (A : Option Addr) (cc : Nat), v = .slice A xs.length cc ∧ xs.length ≤ cc ∧ (0 < xs.length → ∃ (b off sz : Nat) (us : Nat → Value), A = some ⟨b, off, none⟩ ∧ c.ok b ∧ (∀ x ∈ xs, x.length = sz) ∧ (∀ j, j < xs.length * sz → c.w.cell? ⟨b, off + j, none⟩ = some (us j)) ∧ ∀ j a, xs.flatten[j]? = some a → R0 c.w c.ok a (us j))
theorem Rel.sl_inv {xs : List (List AV)} (h : Rel c (.sl xs) v) : SlAt c xs v := by
  cases h with | pure h => cases h with
    | sle A cc => exact ⟨A, cc, rfl, by simp, fun h => by simp at h⟩
    | sl b off sz cc us hb hcp hz h1 h2 => exact ⟨_, cc, rfl, hcp, fun _ => ⟨b, off, sz, us, rfl, hb, hz, h1, h2⟩⟩
theorem Rel.slc_inv {xs : List (List AV)} (h : Rel c (.slc xs) v) : SlAt c xs v ∧ ∃ A, v = .slice A xs.length xs.length := by
  cases h with | pure h => cases h with
    | slce A => exact ⟨⟨A, 0, rfl, by simp, fun h => by simp at h⟩, A, rfl⟩
    | slc b off sz us hb hz h1 h2 => exact ⟨⟨_, _, rfl, Nat.le_refl _, fun _ => ⟨b, off, sz, us, rfl, hb, hz, h1, h2⟩⟩, _, rfl⟩
/-- An element of a frozen slice, pointed to. -/
theorem SlAt.elem {xs : List (List AV)} (h : SlAt c xs v) {m : Nat} {y : List AV} (hy : xs[m]? = some y) : ∃ b off cc, v = .slice (some ⟨b, off, none⟩) xs.length cc ∧ m < xs.length ∧ Rel c (.vptr y) (.pointer (some ⟨b, off + m * y.length, none⟩)) := by
  obtain ⟨A, cc, rfl, hcc, hat⟩ := h.at_
  have hlt : m < xs.length := (List.getElem?_eq_some_iff.1 hy).1
  obtain ⟨b, off, sz, us, rfl, hb, hz, h1, h2⟩ := hat (by omega)
  have hyl := hz y (List.mem_of_getElem? hy)
  refine ⟨b, off, cc, rfl, hlt, .pure (.vptr b _ (fun j => us (m * sz + j)) hb (fun j hj => ?_) fun j a ha => ?_)⟩
  · rw [hyl] at hj
    rw [hyl, Nat.add_assoc]
    exact h1 _ (by have : m * sz + sz ≤ xs.length * sz := by rw [← Nat.succ_mul]; exact Nat.mul_le_mul_right _ hlt
                   omega)
  · have hj : j < sz := by rw [← hyl]; exact (List.getElem?_eq_some_iff.1 ha).1
    exact h2 _ _ (by rw [flatten_get hz hy hj]; exact ha)
end inv

/-- What a value's cells are. -/
theorem cells_rel {c : Cx} {a : AV} {v : Value} {cs : List AV} (h : Rel c a v) (hc : a.cells = some cs) : F2 (Rel c) cs v.cells.toList := by
  have one : ∀ {v : Value}, Rel c a v → v.cells = #[v] → a.cells = some [a] → F2 (Rel c) cs v.cells.toList := fun hr hv ha => by
    rw [ha] at hc
    cases hc
    rw [hv]
    exact .cons hr .nil
  cases a with
  | agg xs => obtain ⟨vs, rfl, h2⟩ := h.agg_inv; cases hc; simpa [Value.cells] using h2
  | tup => cases hc
  | und => cases hc
  | any => cases hc
  | int k n => obtain rfl := h.int_inv; exact one h rfl rfl
  | bool b => obtain rfl := h.bool_inv; exact one h rfl rfl
  | fn f xs => obtain ⟨vs, rfl, _⟩ := h.fn_inv; exact one h rfl rfl
  | yld => obtain ⟨l, _, rfl⟩ := h.yld_inv; exact one h rfl rfl
  | ptr i k j => obtain ⟨e, _, _, rfl⟩ := h.ptr_inv; exact one h rfl rfl
  | vptr xs => obtain ⟨b, off, us, rfl, _⟩ := h.vptr_inv; exact one h rfl rfl
  | row i o m =>
    obtain ⟨e, _, h' | h'⟩ := h.row_inv
    · obtain ⟨_, cc, oo, _, rfl⟩ := h'; exact one h rfl rfl
    · obtain ⟨_, _, _, rfl⟩ := h'; exact one h rfl rfl
  | rowf i =>
    obtain ⟨e, _, rfl⟩ := h.rowf_inv
    refine one h ?_ rfl
    cases hn : e.nil <;> simp [Ent.val, hn, Value.cells]
  | sl xs => obtain ⟨A, cc, rfl, _⟩ := h.sl_inv.at_; exact one h rfl rfl
  | slc xs => obtain ⟨_, A, rfl⟩ := h.slc_inv; exact one h rfl rfl
  | nilsl => obtain rfl := h.nilsl_inv; exact one h rfl rfl
  | mp i => obtain ⟨e, _, _, rfl⟩ := h.mp_inv; exact one h rfl rfl
theorem one_rel {c : Cx} {a : AV} {v : Value} (h : Rel c a v) (ho : oneC a = true) : v.oneCell' = true := by
  cases a with
  | agg xs => cases ho
  | tup => cases ho
  | und => cases ho
  | any => cases ho
  | int k n => obtain rfl := h.int_inv; rfl
  | bool b => obtain rfl := h.bool_inv; rfl
  | fn f xs => obtain ⟨vs, rfl, _⟩ := h.fn_inv; rfl
  | yld => obtain ⟨l, _, rfl⟩ := h.yld_inv; rfl
  | ptr i k j => obtain ⟨e, _, _, rfl⟩ := h.ptr_inv; rfl
  | vptr xs => obtain ⟨b, off, us, rfl, _⟩ := h.vptr_inv; rfl
  | row i o m =>
    obtain ⟨e, _, h' | h'⟩ := h.row_inv
    · obtain ⟨_, cc, oo, _, rfl⟩ := h'; rfl
    · obtain ⟨_, _, _, rfl⟩ := h'; rfl
  | rowf i =>
    obtain ⟨e, _, rfl⟩ := h.rowf_inv
    cases hn : e.nil <;> simp [Ent.val, hn, Value.oneCell']
  | sl xs => obtain ⟨A, cc, rfl, _⟩ := h.sl_inv.at_; rfl
  | slc xs => obtain ⟨_, A, rfl⟩ := h.slc_inv; rfl
  | nilsl => obtain rfl := h.nilsl_inv; rfl
  | mp i => obtain ⟨e, _, _, rfl⟩ := h.mp_inv; rfl
theorem ones_rel {c : Cx} {l : List AV} {vs : List Value} (h : F2 (Rel c) l vs) (ho : l.all oneC = true) : ∀ v ∈ vs, v.oneCell' = true := by
  induction h with
  | nil => simp
  | cons hr _ ih =>
    simp only [List.all_cons, Bool.and_eq_true] at ho
    intro v hv
    rcases List.mem_cons.1 hv with rfl | hv
    · exact one_rel hr ho.1
    · exact ih ho.2 v hv
/-- Cells of plain data, however nil is told. -/
theorem pure_rel {c : Cx} {a : AV} {v : Value} (h : Rel c a v) (hp : (nrm a).pureC = true) : R0 c.w c.ok (nrm a) v := by
  cases h with
  | pure h => exact nrm_r0 h
  | fn => cases hp
  | agg => cases hp
  | tup => cases hp
  | yld => cases hp
  | ptr => cases hp
  | row => cases hp
  | rown => cases hp
  | rowf => cases hp
  | mp => cases hp
theorem pures_rel {c : Cx} {l : List AV} {vs : List Value} (h : F2 (Rel c) l vs) (hp : (l.map nrm).all AV.pureC = true) : F2 (R0 c.w c.ok) (l.map nrm) vs := by
  induction h with
  | nil => exact .nil
  | cons hr _ ih =>
    simp only [List.map_cons, List.all_cons, Bool.and_eq_true] at hp
    exact .cons (pure_rel hr hp.1) (ih hp.2)
theorem pureC_one {a : AV} (h : a.pureC = true) : oneC a = true := by cases a <;> first | rfl | cases h
theorem pureC_all {l : List AV} (h : l.all AV.pureC = true) : l.all oneC = true := by
  rw [List.all_eq_true] at h ⊢
  exact fun a ha => pureC_one (h a ha)
theorem r0_one {w : World} {ok : Nat → Prop} {a : AV} {v : Value} (h : R0 w ok a v) (ho : oneC a = true) : v.oneCell' = true :=
  one_rel (c := ⟨w, ok, fun _ => none, none⟩) (.pure h) ho
theorem r0_ones {w : World} {ok : Nat → Prop} {l : List AV} {vs : List Value} (h : F2 (R0 w ok) l vs) (ho : l.all oneC = true) : ∀ v ∈ vs, v.oneCell' = true :=
  ones_rel (c := ⟨w, ok, fun _ => none, none⟩) (h.imp fun a b _ hab => .pure hab) ho

/-- The wide fence, in a round or not. -/
def Fx (ρ : Option Nat) : Fence := { Fence.wide with round := ρ }
theorem Fx_none : Fx none = Fence.wide := rfl
theorem Fx_fn (ρ : Option Nat) (f : Nat) : (Fx ρ).fn f := trivial
theorem Fx_depth (ρ : Option Nat) : (Fx ρ).depth = none := rfl
theorem CallsIn.fx {P : Program} {f : FuncId} {args : Array Value} {w : World} {R : Ending → World → Prop} (h : CallsIn Fence.wide 0 P f args w R) (ρ : Option Nat) (n : Nat) : CallsIn (Fx ρ) n P f args w R := by
  have h1 : CallsIn Fence.wide n P f args w R := h.more (Nat.zero_le n)
  cases ρ with
  | none => exact h1
  | some l => exact h1.inRound l

/-- The operation, carried out, does e. -/
def Ex (P : Program) (o : Oper) (a : Act) (c : Cx) (L : Nat → Blk) (np : Nat) (e : Eff) : Prop :=
  ∀ (ρ : Option Nat) (n : Nat) (next : Act → World → Prop) (Q : Exit → Act → World → Prop), (∀ v d, Stp c L np e v d → next (a.put o.dst v) d.w) → o.wpIn (Fx ρ) n P a c.w next Q

theorem semAt_exec (ro : Option Nat) (ρ : Operand → Value) (o : Oper) (h : (match o.op with | .defer _ => true | _ => false) = false) : Oper.semAt ro ρ o = execOp ρ o :=
  Oper.semAt_eq ro ρ o fun c hc => by rw [hc] at h; cases h
theorem Ex.value {P : Program} {o : Oper} {a : Act} {c d : Cx} {L : Nat → Blk} {np : Nat} {e : Eff} {v : Value} (ho : (match o.op with | .defer _ => true | _ => false) = false) (hr : (execOp a.eval o).run P c.w = .ok (.value v) d.w) (hs : Stp c L np e v d) : Ex P o a c L np e := by
  intro ρ n next Q h
  refine ⟨fun f _ => Fx_fn ρ f, ?_⟩
  rw [semAt_exec _ _ _ ho, hr]
  exact h v d hs
theorem Ex.skip {P : Program} {o : Oper} {a : Act} {c d : Cx} {L : Nat → Blk} {np : Nat} {e : Eff} (ho : (match o.op with | .defer _ => true | _ => false) = false) (hr : (execOp a.eval o).run P c.w = .ok .skip d.w) (hs : Stp c L np e undef d) : Ex P o a c L np e := by
  intro ρ n next Q h
  refine ⟨fun f _ => Fx_fn ρ f, ?_⟩
  rw [semAt_exec _ _ _ ho, hr]
  exact h undef d hs
theorem Ex.enter {P : Program} {o : Oper} {a : Act} {c : Cx} {L : Nat → Blk} {np : Nat} {e : Eff} {f : FuncId} {args : Array Value} (ho : (match o.op with | .defer _ => true | _ => false) = false) (hr : (execOp a.eval o).run P c.w = .ok (.enter f args) c.w)
    (hc : CallsIn Fence.wide 0 P f args c.w fun x w' => ∃ v d, d.w = w' ∧ x = .returned v ∧ Stp c L np e v d) : Ex P o a c L np e := by
  intro ρ n next Q h
  refine ⟨fun f _ => Fx_fn ρ f, ?_⟩
  rw [semAt_exec _ _ _ ho, hr]
  refine ⟨fun hd => by simp [Fx, Fence.wide] at hd, ((CallsIn.fx hc ρ (n - 1)).mono ?_)⟩
  rintro x w' ⟨v, d, rfl, rfl, hs⟩
  exact h v d hs
end Go.Proofs.Ytcfbhojpemjjpaa
