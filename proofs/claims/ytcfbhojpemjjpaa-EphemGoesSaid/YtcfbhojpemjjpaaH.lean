/- Types; reading and writing memory. -/
import Derived.Test.YtcfbhojpemjjpaaG
set_option linter.unusedVariables false
set_option linter.unusedSimpArgs false
namespace Go.Proofs.Ytcfbhojpemjjpaa
open Go Go.RowKit

def aggD : TypeDesc → Bool
  | .struct _ => true
  | .array _ _ => true
  | _ => false
def TK.ok (P : Program) : TK → TypeDesc → Prop
  | .int k, d => d = .int k
  | .bool, d => d = .bool
  | .slice e, d => d = .slice e
  | .struct fs, d => ∃ F, d = .struct F ∧ F.toList.map (fun f => (f.offset, (P.info? f.type).map (·.size))) = fs.map (fun p => (p.1, some p.2)) ∧ fs.all (fun p => !Nat.beq p.2 0) = true
  | .arr n e, d => d = .array n e
  | .ptr e, d => d = .pointer e
  | .map k e, d => d = .map k e
  | .other, d => aggD d = false
/-- A struct whose fields are whole numbers: '==' goes cell by cell. -/
def EqF (P : Program) (t n : Nat) : Prop :=
  P.eqGuardType P.depth t = false ∧ P.stoodInHeld t = false ∧ ∃ F, P.underlying t = some (.struct F) ∧ F.size = n ∧
    (F.toList.zipIdx.all fun p => !(p.1.name == "_") && Nat.beq p.1.offset p.2 && (match P.underlying p.1.type with | some (.int _) => true | _ => false)) = true
/-- What the walk is told of a type is so. -/
structure TyF (P : Program) (t : Nat) (i : TI) : Prop where
  und : ∃ d, P.underlying t = some d ∧ i.k.ok P d
  inf : (P.info? t).map (fun q => (q.size, q.bytes, q.zero.map (fun z => z.cells.toList.map ofV), q.zero.map (fun z => (z.cells.toList.all (·.oneCell'), z.oneCell')))) = some (i.sz, i.by_, some i.z, some (true, !i.k.isAgg))
  zsz : i.z.length = i.sz
  eq : i.eq = true → EqF P t i.sz
def TyOk (P : Program) (Γ : Nat → Option TI) : Prop := ∀ t i, Γ t = some i → TyF P t i

section
variable {P : Program} {t : Nat} {i : TI}
theorem TyF.info (h : TyF P t i) : ∃ q z, P.info? t = some q ∧ q.size = i.sz ∧ q.bytes = i.by_ ∧ q.zero = some z ∧ z.cells.toList.map ofV = i.z ∧ ∀ v ∈ z.cells.toList, v.oneCell' = true := by
  have h1 := h.inf
  cases hq : P.info? t with
  | none => rw [hq] at h1; cases h1
  | some q =>
    rw [hq] at h1
    simp only [Option.map_some, Option.some.injEq, Prod.mk.injEq] at h1
    obtain ⟨a, b, c, d⟩ := h1
    cases hz : q.zero with
    | none => rw [hz] at c; cases c
    | some z =>
      rw [hz] at c d
      simp only [Option.map_some, Option.some.injEq, Prod.mk.injEq, List.all_eq_true] at c d
      exact ⟨q, z, rfl, a, b, hz, c, d.1⟩
theorem TyF.one (h : TyF P t i) (ha : i.k.isAgg = false) : ∃ q z, P.info? t = some q ∧ q.zero = some z ∧ z.oneCell' = true ∧ z.cells.toList.map ofV = i.z := by
  have h1 := h.inf
  cases hq : P.info? t with
  | none => rw [hq] at h1; cases h1
  | some q =>
    rw [hq] at h1
    simp only [Option.map_some, Option.some.injEq, Prod.mk.injEq] at h1
    obtain ⟨a, b, c, d⟩ := h1
    cases hz : q.zero with
    | none => rw [hz] at c; cases c
    | some z =>
      rw [hz] at c d
      simp only [Option.map_some, Option.some.injEq, Prod.mk.injEq, ha] at c d
      exact ⟨q, z, rfl, hz, d.2, c⟩
theorem ofV_r0 (w : World) (ok : Nat → Prop) (v : Value) : R0 w ok (ofV v) v := by
  unfold ofV
  split
  · exact .int _ _
  · exact .bool _
  · exact .nilsl
  · exact .any _
theorem ofV_r0s (w : World) (ok : Nat → Prop) : ∀ l : List Value, F2 (R0 w ok) (l.map ofV) l
  | [] => .nil
  | v :: l => .cons (ofV_r0 w ok v) (ofV_r0s w ok l)
theorem nrm_r0 {w : World} {ok : Nat → Prop} {a : AV} {v : Value} (h : R0 w ok a v) : R0 w ok (nrm a) v := by
  cases h with
  | nilsl => exact .sle none 0
  | int k n => exact .int k n
  | bool b => exact .bool b
  | fn f hl h => exact .fn f hl h
  | vptr b off us hb h1 h2 => exact .vptr b off us hb h1 h2
  | sle A c => exact .sle A c
  | sl b off sz c us hb hcp hz h1 h2 => exact .sl b off sz c us hb hcp hz h1 h2
  | slce A => exact .slce A
  | slc b off sz us hb hz h1 h2 => exact .slc b off sz us hb hz h1 h2
  | agg hl h => exact .agg hl h
  | tup hl h => exact .tup hl h
  | und => exact .und
  | any v => exact .any v
theorem agg_ok {k : TK} {d : TypeDesc} (hk : k.ok P d) : aggD d = k.isAgg := by
  cases k <;> simp only [TK.ok] at hk
  case struct fs => obtain ⟨F, rfl, _⟩ := hk; rfl
  case other => exact hk
  all_goals (subst hk; rfl)
theorem run_isAgg_of (h : TyF P t i) (w : World) : (isAgg t).run P w = .ok i.k.isAgg w := by
  obtain ⟨d, hd, hk⟩ := h.und
  rw [← agg_ok hk]
  simp only [isAgg, Sem.run_bind, run_underlying hd, Result.andThen_ok]
  cases d <;> rfl
theorem run_sizeOf_of (h : TyF P t i) (w : World) : (sizeOf t).run P w = .ok i.sz w := by
  obtain ⟨q, z, hq, hs, _⟩ := h.info
  simp [sizeOf, typeInfo, hq, hs]
theorem run_zeroValue_of (h : TyF P t i) : ∃ z : Value, z.cells.toList.map ofV = i.z ∧ (∀ v ∈ z.cells.toList, v.oneCell' = true) ∧ ∀ w, (zeroValue t).run P w = .ok z w := by
  obtain ⟨q, z, hq, _, _, hz, h1, h2⟩ := h.info
  exact ⟨z, h1, h2, fun w => by simp [zeroValue, typeInfo, hq, hz]⟩
end

theorem add_at (b off j : Nat) : (⟨b, off, none⟩ : Addr).add j = ⟨b, off + j, none⟩ := by unfold Addr.add; split <;> simp_all

theorem ldC_sound {P : Program} {t : Nat} {i : TI} (hi : TyF P t i) {c : Cx} {x : List AV} {b off : Nat} {us : Nat → Value} (hc : ∀ j, j < x.length → c.w.cell? ⟨b, off + j, none⟩ = some (us j))
    (hr : ∀ j a, x[j]? = some a → Rel c a (us j)) {k : AV → Prop} (h : ldC i x k) : ∃ a v, k a ∧ (Instr.loadAt t (.pointer (some ⟨b, off, none⟩))).run P c.w = .ok v c.w ∧ Rel c a v := by
  unfold ldC at h
  split at h
  · rename_i hagg
    rw [frcL_eq] at h
    split at h
    · rename_i hlen
      have hlen := Nat.eq_of_beq_eq_true hlen
      rw [List.length_take] at hlen
      refine ⟨_, _, h, ?_, .agg (vs := (List.range i.sz).map us) (by simp; omega) fun j a v ha hv => ?_⟩
      · have hl := run_loadCells (P := P) c.w ⟨b, off, none⟩ i.sz us fun j hj => by rw [add_at]; exact hc j (by omega)
        simp [Instr.loadAt, Instr.sureAddr, loadVar, run_isAgg_of hi, hagg, run_sizeOf_of hi, hl]
      · obtain ⟨q, hq, rfl⟩ := get_map hv
        have hj : j < i.sz := by
          have := (List.getElem?_eq_some_iff.1 hq).1
          simpa using this
        rw [List.getElem?_range hj] at hq
        cases hq
        rw [List.getElem?_take, if_pos hj] at ha
        exact hr j a ha
    · exact h.elim
  · rename_i hagg
    cases x with
    | nil => exact h.elim
    | cons a l =>
      simp only [frc_eq] at h
      refine ⟨_, us 0, h, ?_, hr 0 a rfl⟩
      have := hc 0 (by simp)
      simp [Instr.loadAt, Instr.sureAddr, loadVar, run_isAgg_of hi, hagg, this]
      have h0 : c.w.cell? ⟨b, off, none⟩ = some (us 0) := by simpa using this
      simp [h0]

theorem setCell_put {w : World} {b : Nat} {cur : Array Value} {ty : TypeId} (h : w.heap[b]? = some (.cells cur ty (0, 0))) (o : Nat) (v : Value) :
    w.setCell ⟨b, o, none⟩ v = w.putObj b (.cells (cur.setIfInBounds o v) ty (0, 0)) := by
  unfold World.setCell World.putObj
  congr 1
  apply Array.ext_getElem?
  intro j
  by_cases hj : b = j
  · subst hj
    obtain ⟨hlt, hg⟩ := Array.getElem?_eq_some_iff.1 h
    rw [Array.getElem?_modify, if_pos rfl, h, Array.getElem?_setIfInBounds, if_pos rfl, if_pos hlt]
    simp
  · simp [Array.getElem?_modify, hj, Array.getElem?_setIfInBounds]
theorem putObj_putObj (w : World) (b : Nat) (o o' : Obj) : (w.putObj b o).putObj b o' = w.putObj b o' := by
  unfold World.putObj
  simp
theorem putObj_self {w : World} {b : Nat} {o : Obj} (h : w.heap[b]? = some o) : w.putObj b o = w := by
  unfold World.putObj
  obtain ⟨hlt, hg⟩ := Array.getElem?_eq_some_iff.1 h
  have : w.heap.setIfInBounds b o = w.heap := by
    apply Array.ext_getElem?
    intro j
    by_cases hj : b = j
    · subst hj; simp [Array.getElem?_setIfInBounds, hlt, hg]
    · simp [Array.getElem?_setIfInBounds, hj]
  rw [this]
theorem splice_nil {α : Type} (l : List α) (o : Nat) : splice l o [] = l := by simp [splice]
theorem splice_cons {α : Type} (l : List α) (o : Nat) (v : α) (vs : List α) (h : o < l.length) : splice (l.set o v) (o + 1) vs = splice l o (v :: vs) := by
  unfold splice
  have h1 : (l.set o v).take (o + 1) = l.take o ++ [v] := by
    rw [List.take_succ_eq_append_getElem (by simpa using h), List.take_set, List.set_eq_of_length_le (by rw [List.length_take]; omega)]
    simp
  have h2 : (l.set o v).drop (o + 1 + vs.length) = l.drop (o + (v :: vs).length) := by
    rw [List.drop_set_of_lt (by omega)]
    simp [Nat.add_comm, Nat.add_left_comm]
  rw [h1, h2]
  simp
theorem splice_length {α : Type} (l : List α) (o : Nat) (vs : List α) (h : o + vs.length ≤ l.length) : (splice l o vs).length = l.length := by
  unfold splice
  simp
  omega
/-- Values are stored one behind the other. -/
theorem run_storeCells {P : Program} : ∀ (vs : List Value) (i : Nat) (w : World) (b off : Nat) (cur : Array Value) (ty : TypeId), w.heap[b]? = some (.cells cur ty (0, 0)) → off + i + vs.length ≤ cur.size → (∀ v ∈ vs, v.oneCell' = true) →
    (storeCells ⟨b, off, none⟩ vs i).run P w = .ok () (w.putObj b (.cells (splice cur.toList (off + i) vs).toArray ty (0, 0)))
  | [], i, w, b, off, cur, ty, hh, hl, h1 => by
    rw [splice_nil]
    simp [storeCells, putObj_self hh]
  | v :: vs, i, w, b, off, cur, ty, hh, hl, h1 => by
    have hlt : off + i < cur.size := by simp at hl; omega
    have hc : w.cell? ⟨b, off + i, none⟩ = some cur[off + i] := by rw [cell_of hh, Array.getElem?_eq_getElem hlt]
    have hf : w.frozen? ⟨b, off + i, none⟩ = false := by simp [World.frozen?, hh]
    have hb : b < w.heap.size := (Array.getElem?_eq_some_iff.1 hh).1
    simp only [storeCells, Sem.run_bind, add_at, run_store P w _ v .plain (h1 v (by simp)), hc, hf, Bool.false_eq_true, if_false, Result.andThen_ok, setCell_put hh]
    rw [run_storeCells vs (i + 1) _ b off (cur.setIfInBounds (off + i) v) ty (World.putObj_heap_same hb) (by simp at hl ⊢; omega) fun u hu => h1 u (by simp [hu]), putObj_putObj]
    congr 3
    rw [← splice_cons _ _ _ _ (by simpa using hlt)]
    simp [Nat.add_assoc]
end Go.Proofs.Ytcfbhojpemjjpaa
