/- What a law is handed, and what it leaves: the row's frame. -/
import Derived.Test.YtcfbhojpemjjpaaP
set_option linter.unusedVariables false
set_option linter.unusedSimpArgs false
namespace Go.Proofs.Ytcfbhojpemjjpaa
open Go Go.RowKit Go.ChangeShapes Go.WideShapes

section
variable {H : Type} {enc : TypeId × Value → H} {P : Program} {W : World}
/-- One argument, as the walk tells it. -/
def TypedA (P : Program) (d : Nat) (t : TypeId) (a : AV) : Prop := match P.underlying t with
  | some (.struct _) => ∃ cs, a = .agg cs ∧ Typed P d t cs
  | _ => Typed P d t [a]
theorem f2_one {R : AV → Value → Prop} {avs : List AV} {v : Value} (h : F2 R avs [v]) : ∃ a, avs = [a] ∧ R a v := by
  cases h with
  | cons hr ht => cases ht; exact ⟨_, rfl, hr⟩
theorem arg_read {d : Nat} {t : TypeId} {v : Value} {x : DataW H} {ps : List MemPlace} {base : Nat} (h : DataW.Trod enc P W 0 (fun _ => true) true t v x ps) (hok : Value.okWide P W .any base t v) (hp : plainTy P d t = true) (hw : (x.weights P t).all (· ≤ reachBytes) = true) :
    ∃ a, R0 W (okW W) a v ∧ TypedA P d t a := by
  obtain ⟨fuel, h⟩ := h
  obtain ⟨avs, h2, hty, hl⟩ := read fuel d t v.cells.toList (x, ps) h hp hw
  unfold TypedA
  have key : (∃ cs, v = .agg cs) ∨ v.cells = #[v] := by
    cases v <;> first | exact .inr rfl | exact .inl ⟨_, rfl⟩
  cases d with
  | zero => cases hp
  | succ d =>
  cases hu : P.underlying t with
  | none => simp [plainTy, hu] at hp
  | some ds =>
    cases ds with
    | struct fs =>
      obtain ⟨cs, rfl, _⟩ := okWide_struct hu hok
      refine ⟨.agg avs, .agg (cs := avs) (vs := cs.toList) h2.length (fun i a u ha hv => ?_), avs, rfl, hty⟩
      obtain ⟨u', hu', hr⟩ := h2.get i ha
      have hv' : cs.toList[i]? = some u := hv
      rw [show (Value.agg cs).cells.toList = cs.toList from rfl, hv'] at hu'
      cases hu'
      exact hr
    | int k =>
      obtain ⟨n, rfl⟩ := okWide_int hu hok
      obtain ⟨a, rfl, hr⟩ := f2_one h2
      exact ⟨a, hr, hty⟩
    | bool =>
      obtain ⟨b, rfl⟩ := okWide_bool hu hok
      obtain ⟨a, rfl, hr⟩ := f2_one h2
      exact ⟨a, hr, hty⟩
    | slice e =>
      obtain ⟨b, l, c, rfl⟩ := okWide_slice hu hok
      obtain ⟨a, rfl, hr⟩ := f2_one h2
      exact ⟨a, hr, hty⟩
    | _ => simp [plainTy, hu] at hp
def TypedAs (P : Program) (d : Nat) : List TypeId → List AV → Prop
  | [], avs => avs = []
  | t :: ts, avs => ∃ a l, avs = a :: l ∧ TypedA P d t a ∧ TypedAs P d ts l
theorem args_read {d : Nat} {base : Nat} : ∀ (ts : List TypeId) (vs : List Value) (xs : List (DataW H)) (ps : List MemPlace), DataW.TrodAll enc P W 0 (fun _ => true) true ts vs xs ps → (∀ (j : Nat) (t : TypeId) (v : Value), ts[j]? = some t → vs[j]? = some v → Value.okWide P W .any base t v) →
    ts.all (plainTy P d) = true → (DataW.weightsEach P ts xs).all (· ≤ reachBytes) = true → ∃ avs, F2 (R0 W (okW W)) avs vs ∧ TypedAs P d ts avs
  | [], vs, xs, ps, h, hok, hp, hw => by
    obtain ⟨rfl, _, _⟩ := trodAll_nil h
    exact ⟨[], .nil, rfl⟩
  | t :: ts, vs, xs, ps, h, hok, hp, hw => by
    obtain ⟨v, vs', x, xs', p, q, rfl, rfl, rfl, h1, h2⟩ := trodAll_cons h
    simp only [List.all_cons, Bool.and_eq_true] at hp
    simp only [DataW.weightsEach, List.all_append, Bool.and_eq_true] at hw
    obtain ⟨a, g1, g2⟩ := arg_read h1 (hok 0 t v rfl rfl) hp.1 hw.1
    obtain ⟨avs, g3, g4⟩ := args_read ts vs' xs' q h2 (fun j t' v' ht hv => hok (j + 1) t' v' (by simpa using ht) (by simpa using hv)) hp.2 hw.2
    exact ⟨a :: avs, .cons g1 g3, a, avs, rfl, g2, g4⟩
theorem args_back (hl : laidOutB P = true) {W' : World} (hb : Below W.heap.size W W') : ∀ (ts : List TypeId) (vs : List Value) (xs : List (DataW H)) (ps : List MemPlace), DataW.TrodAll enc P W 0 (fun _ => true) true ts vs xs ps → ts.all (fun t => P.readableRec t && decide (t < P.types.size)) = true →
    DataW.TrodAll enc P W' 0 (fun b => decide (b < W.heap.size)) true ts vs xs ps
  | [], vs, xs, ps, h, _ => by
    obtain ⟨rfl, rfl, rfl⟩ := trodAll_nil h
    exact trodAll_mk0
  | t :: ts, vs, xs, ps, h, hp => by
    obtain ⟨v, vs', x, xs', p, q, rfl, rfl, rfl, h1, h2⟩ := trodAll_cons h
    simp only [List.all_cons, Bool.and_eq_true, decide_eq_true_eq] at hp
    refine trodAll_cons_mk (Below.trod hl hp.1.1 hp.1.2 h1 hb ?_) (args_back hl hb ts vs' xs' q h2 hp.2)
    obtain ⟨m, hm⟩ := h1
    exact DataW.trod_lt m _ _ _ hm
/-- The law's contract, in the row's words. -/
theorem law_calls {f : FuncId} {args : List AV} {vs : List Value} (hc : C P f args (.bool true)) (h : F2 (R0 W (okW W)) args vs) : Calls P f vs.toArray W fun e W' => e = .returned (.bool true) ∧ Below W.heap.size W W' := by
  refine (callsIn_wide (n := 0)).1 ((hc.2 ⟨W, okW W, fun _ => none, none⟩ vs ?_ (h.imp fun _ _ _ h => .pure h)).mono ?_)
  · exact ⟨fun i hi => by simp [lk, Blk.alive] at hi, fun i e he => (by cases he), fun i j e e' he => (by cases he), fun b hb => ⟨hb, fun ⟨i, e, he, _⟩ => (by cases he)⟩⟩
  · rintro e w' ⟨v, d, rfl, rfl, hf, _, hr, _⟩
    exact ⟨by rw [hr.bool_inv], hf.os, hf.tape, hf.output, hf.size, fun k hk => hf.same k hk fun ⟨i, e, he, _⟩ => (by cases he)⟩
end
end Go.Proofs.Ytcfbhojpemjjpaa
