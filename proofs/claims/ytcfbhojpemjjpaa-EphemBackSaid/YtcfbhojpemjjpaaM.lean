/- An operation does what the walk says of it: structs and arrays that are built, lengths, the lesser and the greater. -/
import Derived.Test.YtcfbhojpemjjpaaL
import Derived.Great.FillDense
import Derived.MapKept
set_option linter.unusedVariables false
set_option linter.unusedSimpArgs false
namespace Go.Proofs.Ytcfbhojpemjjpaa
open Go Go.RowKit

section
variable {P : Program} {Γ : Nat → Option TI} {o : Oper} {a : Act} {c : Cx} {L : Nat → Blk} {np j : Nat} {ρ : Operand → AV} {k : Eff → Prop}

theorem F2.splice {α β : Type} {R : α → β → Prop} {l l' : List α} {m m' : List β} (h : F2 R l m) (h' : F2 R l' m') (n : Nat) : F2 R (splice l n l') (splice m n m') := by
  unfold Go.Proofs.Ytcfbhojpemjjpaa.splice
  rw [h'.length]
  exact ((h.take n).append h').append (h.drop _)
theorem fill_one {place : Nat → Option (Nat × Nat)} {cells : Array Value} {i : Nat} {v : Value} {rest : List (Nat × Value)} {off size : Nat} (hp : place i = some (off, size)) (hs : v.cells.size = size) (hle : off + size ≤ cells.size) :
    Instr.fill place cells ((i, v) :: rest) = Instr.fill place (splice cells.toList off v.cells.toList).toArray rest := by
  conv => lhs; unfold Instr.fill
  simp only [hp]
  rw [if_neg (by simp; omega)]
  congr 1
  rw [← Array.foldl_toList, Array.toList_zipIdx]
  obtain ⟨g1, g2⟩ := Great.foldl_set off v.cells.toList 0 cells
  apply Array.ext_getElem?
  intro q
  rw [g2 q]
  have hl : v.cells.toList.length = size := by simpa using hs
  unfold splice
  simp only [Nat.add_zero, List.getElem?_toArray]
  by_cases h1 : off ≤ q ∧ q < off + v.cells.toList.length ∧ q < cells.size
  · rw [if_pos h1, List.getElem?_append_left (by simp; omega), List.getElem?_append_right (by simp; omega)]
    congr 1
    simp
    omega
  · rw [if_neg h1]
    by_cases h2 : q < off
    · rw [List.getElem?_append_left (by simp; omega), List.getElem?_append_left (by simp; omega), List.getElem?_take, if_pos h2]
      simp
    · rw [List.getElem?_append_right (by simp; omega), List.getElem?_drop]
      simp only [Array.getElem?_toList]
      congr 1
      simp
      omega
theorem cells_ne {av : AV} {v : Value} (h : Rel c av v) {cs : List AV} (hc : av.cells = some cs) : F2 (Rel c) cs v.cells.toList ∧ v.cells.size = cs.length := by
  have := cells_rel h hc
  exact ⟨this, by rw [this.length]; simp⟩
theorem bldL_sound {fs : List (Nat × Nat)} {place : Nat → Option (Nat × Nat)} (hp : ∀ (f : Nat) (p : Nat × Nat), fs[f]? = some p → place f = some p) (hρ : ∀ x, Rel c (ρ x) (a.eval x)) : ∀ (ps : List (Nat × Operand)) (cs : List AV) (cells : Array Value) {k : List AV → Prop},
    F2 (Rel c) cs cells.toList → bldL fs ρ ps cs k → ∃ (cs' : List AV) (cells' : Array Value), k cs' ∧ F2 (Rel c) cs' cells'.toList ∧ Instr.fill place cells (ps.map fun p => (p.1, a.eval p.2)) = some cells'
  | [], cs, cells, k, h2, h => ⟨cs, cells, h, h2, rfl⟩
  | (f, x) :: ps, cs, cells, k, h2, h => by
    simp only [bldL, frc_eq, frcL_eq] at h
    split at h
    · rename_i off sz hf
      split at h
      · rename_i ys hy
        split at h
        · rename_i hb
          simp only [Bool.and_eq_true] at hb
          have h3 := Nat.eq_of_beq_eq_true hb.1
          have h4 := Nat.le_of_ble_eq_true hb.2
          obtain ⟨g1, g2⟩ := cells_ne (hρ x) hy
          have hlen : cells.size = cs.length := by rw [h2.length]; simp
          simp only [List.map_cons]
          rw [fill_one (hp f _ hf) (by rw [g2, h3]) (by omega)]
          exact bldL_sound hp hρ ps _ (Go.Proofs.Ytcfbhojpemjjpaa.splice cells.toList off (a.eval x).cells.toList).toArray (by simpa using h2.splice g1 off) h
        · exact h.elim
      · exact h.elim
    · exact h.elim
theorem parts_list (ps : Array (Nat × Operand)) (f : Operand → Value) : (ps.map fun (i, x) => (i, f x)).toList = ps.toList.map fun p => (p.1, f p.2) := by
  rw [Array.toList_map]
theorem z_rel {P : Program} {t : Nat} {i : TI} (h : TyF P t i) : ∃ q z, P.info? t = some q ∧ q.size = i.sz ∧ q.bytes = i.by_ ∧ q.zero = some z ∧ F2 (R0 c.w c.ok) i.z z.cells.toList ∧ (∀ v ∈ z.cells.toList, v.oneCell' = true) := by
  obtain ⟨q, z, h1, h2, h3, h4, h5, h6⟩ := h.info
  exact ⟨q, z, h1, h2, h3, h4, by rw [← h5]; exact ofV_r0s _ _ _, h6⟩
theorem places_of {P : Program} : ∀ (F : List Field) (fs : List (Nat × Nat)), F.map (fun f => (f.offset, (P.info? f.type).map (·.size))) = fs.map (fun p => (p.1, some p.2)) → F.mapM (fun f => (P.info? f.type).map fun i => (f.offset, i.size)) = some fs
  | [], [], _ => rfl
  | [], _ :: _, h => by simp at h
  | _ :: _, [], h => by simp at h
  | f :: F, p :: fs, h => by
    simp only [List.map_cons, List.cons.injEq, Prod.mk.injEq] at h
    obtain ⟨⟨h1, h2⟩, h⟩ := h
    obtain ⟨q, hq, hs⟩ := Option.map_eq_some_iff.1 h2
    have ih := places_of F fs h
    simp [List.mapM_cons, hq, ih, h1, hs]
theorem ex_build {t : Nat} {ps : Array (Nat × Operand)} (hT : TyOk P Γ) (ho : o.op = .build t ps) (hg : Good c L) (hρ : ∀ x, Rel c (ρ x) (a.eval x)) (h : vcE P Γ np o ρ L j k) : ∃ e, k e ∧ Ex P o a c L np e := by
  simp only [vcE, ho, frc_eq] at h
  split at h
  · rename_i i hi
    have hi := hT _ _ hi
    obtain ⟨q, z, hq, _, _, hz, hz2, _⟩ := z_rel (c := c) hi
    obtain ⟨d, hd, hk⟩ := hi.und
    split at h
    · rename_i fs hik
      rw [hik] at hk
      obtain ⟨F, rfl, hF, _⟩ := hk
      obtain ⟨cs, cells, hk, h2, hf⟩ := bldL_sound (place := (fs.toArray[·]?)) (a := a) (c := c) (fun f p hfp => by simpa using hfp) hρ ps.toList i.z z.cells (hz2.imp fun _ _ _ h => .pure h) h
      refine ⟨_, hk, Ex.pureV hg (by rw [ho]) (v := .agg cells) (by
        simp only [execOp, ho]
        refine run_v (run_build c.w t _ cells ?_)
        unfold Program.built
        rw [parts_list]
        simp only [hq, hd, hz, places_of _ _ hF]
        exact hf) ?_⟩
      have := Rel.agg (c := c) h2.length fun i x v hx hv => by
        obtain ⟨u, hu, hr⟩ := h2.get i hx
        rw [hu] at hv; cases hv
        exact hr
      simpa using this
    · rename_i n e hik
      rw [hik] at hk
      simp only [TK.ok] at hk
      subst hk
      split at h
      · rename_i q' hq'
        obtain ⟨qe, ze, hqe, hqs, _⟩ := (hT _ _ hq').info
        obtain ⟨cs, cells, hk, h2, hf⟩ := bldL_sound (place := fun i => some (i * qe.size, qe.size)) (a := a) (c := c) (fun f p hfp => by
          obtain ⟨x, hx, rfl⟩ := get_map hfp
          have : x = f := by
            have h1 := (List.getElem?_eq_some_iff.1 hx)
            obtain ⟨h1, h2⟩ := h1
            simpa using h2.symm
          subst this
          rw [hqs]) hρ ps.toList i.z z.cells (hz2.imp fun _ _ _ h => .pure h) h
        refine ⟨_, hk, Ex.pureV hg (by rw [ho]) (v := .agg cells) (by
          simp only [execOp, ho]
          refine run_v (run_build c.w t _ cells ?_)
          unfold Program.built
          rw [parts_list]
          simp only [hq, hd, hz, hqe]
          exact hf) ?_⟩
        have := Rel.agg (c := c) h2.length fun i x v hx hv => by
          obtain ⟨u, hu, hr⟩ := h2.get i hx
          rw [hu] at hv; cases hv
          exact hr
        simpa using this
      · exact h.elim
    · exact h.elim
  · exact h.elim

theorem two {α : Type} {x : Array α} {p q : α} (h : x.toList = [p, q]) : x = #[p, q] := by cases x; simp_all
theorem one_ {α : Type} {x : Array α} {p : α} (h : x.toList = [p]) : x = #[p] := by cases x; simp_all
theorem run_bi {cl : Call} {b : Builtin} (hc : cl.callee = .builtin b) (ho : o.op = .call cl) (w : World) (f : Operand → Value) : ∃ cs, (execOp f o).run P w = (builtin b cl.argTypes o.type cs (cl.args.map f)).run P w := by
  refine ⟨cl.args.map fun | .const _ => true | _ => false, ?_⟩
  simp only [execOp, ho, resolve, hc, invoke, Sem.run_bind, Sem.run_pure, Result.andThen_ok]
  rfl
theorem ex_len {cl : Call} (hT : TyOk P Γ) (ho : o.op = .call cl) (hcl : cl.callee = .builtin .len) (hg : Good c L) (hρ : ∀ x, Rel c (ρ x) (a.eval x)) (h : vcE P Γ np o ρ L j k) : ∃ e, k e ∧ Ex P o a c L np e := by
  simp only [vcE, ho, hcl, frc_eq] at h
  have hnd : (match o.op with | .defer _ => true | _ => false) = false := by rw [ho]
  split at h
  · rename_i x hx0
    split at h
    · rename_i t ht0
      split at h
      · rename_i i hi
        have hx := hρ x
        obtain ⟨d, hd, hk⟩ := (hT _ _ hi).und
        have key : ∀ (n : Nat) (A : Option Addr) (cc : Nat) (rd : List Nat), (∃ e, P.underlying t = some (.slice e)) → a.eval x = .slice A n cc → k { v := .int .i64 n, rd := rd } → ∃ e, k e ∧ Ex P o a c L np e := fun n A cc rd hs ex h => by
          obtain ⟨e, hs⟩ := hs
          exact ⟨_, h, Ex.pureV hg hnd (v := .int .i64 n) (by obtain ⟨cs, hb⟩ := run_bi (P := P) hcl ho c.w a.eval; rw [hb, one_ hx0, one_ ht0]; simp [ex, builtin, Builtin.len_, run_underlying hs, goInt]) (.pure (.int _ _))⟩
        split at h
        · rename_i e hik
          rw [hik] at hk
          simp only [TK.ok] at hk
          subst hk
          split at h
          · rename_i xs hp
            rw [hp] at hx
            obtain ⟨A, cc, ex, _⟩ := hx.sl_inv.at_
            exact key _ _ _ _ ⟨_, hd⟩ ex h
          · rename_i xs hp
            rw [hp] at hx
            obtain ⟨_, A, ex⟩ := hx.slc_inv
            exact key _ _ _ _ ⟨_, hd⟩ ex h
          · rename_i hp
            rw [hp] at hx
            exact key 0 _ _ _ ⟨_, hd⟩ hx.nilsl_inv h
          · rename_i b off n hp
            rw [hp] at hx
            obtain ⟨e', hμ, ⟨_, cc, oo, _, ex⟩ | ⟨_, _, rfl, ex⟩⟩ := hx.row_inv
            · exact key _ _ _ _ ⟨_, hd⟩ ex h
            · exact key _ _ _ _ ⟨_, hd⟩ ex h
          · rename_i b hp
            rw [hp] at hx
            obtain ⟨e', hμ, ex⟩ := hx.rowf_inv
            obtain ⟨e'', hμ', hB⟩ := hg.blk b (hg.dom b e' hμ)
            rw [hμ] at hμ'; cases hμ'
            split at h
            · rename_i ty s xs hL
              rw [hL] at hB
              cases hnn : e'.nil with
              | true =>
                rw [Ent.val_nil hnn] at ex
                rw [rows_nil hB hnn] at h
                exact key 0 _ _ _ ⟨_, hd⟩ ex h
              | false =>
                obtain ⟨cur, vs, hh, h2, hsz, hn', _⟩ := rows_at hB hnn
                rw [Ent.val_at hnn, hn'] at ex
                exact key _ _ _ _ ⟨_, hd⟩ ex h
            · exact h.elim
          · exact h.elim
        · rename_i kt et hik
          rw [hik] at hk
          simp only [TK.ok] at hk
          subst hk
          split at h
          · rename_i b hp
            rw [hp] at hx
            obtain ⟨e', hμ, hn', ex⟩ := hx.mp_inv
            obtain ⟨e'', hμ', hB⟩ := hg.blk b (hg.dom b e' hμ)
            rw [hμ] at hμ'; cases hμ'
            split at h
            · rename_i kk es hL
              rw [hL] at hB
              cases hB with
              | map _ ms clock hh h2 =>
                have hl := h2.length
                simp only [Array.length_toList] at hl
                exact ⟨_, h, Ex.pureV hg hnd (v := .int .i64 es.length) (by obtain ⟨cs, hb⟩ := run_bi (P := P) hcl ho c.w a.eval; rw [hb, one_ hx0, one_ ht0]; simp [ex, builtin, Builtin.len_, run_underlying hd, MapKept.run_getObj_map hh, goInt, hl]) (.pure (.int _ _))⟩
            · exact h.elim
          · exact h.elim
        · exact h.elim
      · exact h.elim
    · exact h.elim
  · exact h.elim
theorem ex_min {cl : Call} (hT : TyOk P Γ) (ho : o.op = .call cl) (hcl : cl.callee = .builtin .min) (hg : Good c L) (hρ : ∀ x, Rel c (ρ x) (a.eval x)) (h : vcE P Γ np o ρ L j k) : ∃ e, k e ∧ Ex P o a c L np e := by
  simp only [vcE, ho, hcl, frc_eq] at h
  have hnd : (match o.op with | .defer _ => true | _ => false) = false := by rw [ho]
  split at h
  · rename_i x y hx0
    split at h
    · rename_i kx p ky q hp hq
      have hx := hρ x
      have hy := hρ y
      rw [hp] at hx
      rw [hq] at hy
      have ex := hx.int_inv
      have ey := hy.int_inv
      exact ⟨_, h, Ex.pureV hg hnd (v := .int kx (if q < p then q else p)) (by obtain ⟨cs, hb⟩ := run_bi (P := P) hcl ho c.w a.eval; rw [hb, two hx0]; simp [builtin, Builtin.min_, Builtin.min2, ex, ey]) (.pure (.int _ _))⟩
    · exact h.elim
  · exact h.elim
theorem ex_max {cl : Call} (hT : TyOk P Γ) (ho : o.op = .call cl) (hcl : cl.callee = .builtin .max) (hg : Good c L) (hρ : ∀ x, Rel c (ρ x) (a.eval x)) (h : vcE P Γ np o ρ L j k) : ∃ e, k e ∧ Ex P o a c L np e := by
  simp only [vcE, ho, hcl, frc_eq] at h
  have hnd : (match o.op with | .defer _ => true | _ => false) = false := by rw [ho]
  split at h
  · rename_i x y hx0
    split at h
    · rename_i kx p ky q hp hq
      have hx := hρ x
      have hy := hρ y
      rw [hp] at hx
      rw [hq] at hy
      have ex := hx.int_inv
      have ey := hy.int_inv
      exact ⟨_, h, Ex.pureV hg hnd (v := .int kx (if q > p then q else p)) (by obtain ⟨cs, hb⟩ := run_bi (P := P) hcl ho c.w a.eval; rw [hb, two hx0]; simp [builtin, Builtin.max_, Builtin.max2, ex, ey]) (.pure (.int _ _))⟩
    · exact h.elim
  · exact h.elim
end
end Go.Proofs.Ytcfbhojpemjjpaa
