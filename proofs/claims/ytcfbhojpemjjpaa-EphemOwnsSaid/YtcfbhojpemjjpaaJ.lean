/- An operation does what the walk says of it: what turns no block. -/
import Derived.Test.YtcfbhojpemjjpaaI
set_option linter.unusedVariables false
set_option linter.unusedSimpArgs false
namespace Go.Proofs.Ytcfbhojpemjjpaa
open Go Go.RowKit

section
variable {P : Program} {Γ : Nat → Option TI} {o : Oper} {a : Act} {c : Cx} {L : Nat → Blk} {np j : Nat} {ρ : Operand → AV} {k : Eff → Prop}
theorem run_v {s : Sem Value} {w w' : World} {v : Value} (h : s.run P w = .ok v w') : (do pure (Next.value (← s)) : Sem Next).run P w = .ok (.value v) w' := by simp [h]
theorem run_u {s : Sem Unit} {w w' : World} (h : s.run P w = .ok () w') : (do s; pure Next.skip : Sem Next).run P w = .ok .skip w' := by simp [h]
theorem Ex.pureV (hg : Good c L) {x : AV} {v : Value} {rd : List Nat} (ho : (match o.op with | .defer _ => true | _ => false) = false) (hr : (execOp a.eval o).run P c.w = .ok (.value v) c.w) (hv : Rel c x v) : Ex P o a c L np { v := x, rd := rd } :=
  Ex.value ho hr (Stp.pure hg hv)

theorem ex_move {x : Operand} (ho : o.op = .move x) (hg : Good c L) (hρ : ∀ x, Rel c (ρ x) (a.eval x)) (h : vcE P Γ np o ρ L j k) : ∃ e, k e ∧ Ex P o a c L np e := by
  simp only [vcE, ho, frc_eq] at h
  exact ⟨_, h, Ex.pureV hg (by rw [ho]) (by simp [execOp, ho]) (hρ x)⟩
theorem ex_assign {x : Operand} (ho : o.op = .assign x) (hg : Good c L) (hρ : ∀ x, Rel c (ρ x) (a.eval x)) (h : vcE P Γ np o ρ L j k) : ∃ e, k e ∧ Ex P o a c L np e := by
  simp only [vcE, ho, frc_eq] at h
  exact ⟨_, h, Ex.pureV hg (by rw [ho]) (by simp [execOp, ho]) (hρ x)⟩
theorem ex_pick {x y z : Operand} (ho : o.op = .pick x y z) (hg : Good c L) (hρ : ∀ x, Rel c (ρ x) (a.eval x)) (h : vcE P Γ np o ρ L j k) : ∃ e, k e ∧ Ex P o a c L np e := by
  simp only [vcE, ho, frc_eq] at h
  have hx := hρ x
  split at h
  · rename_i t ht
    rw [ht] at hx
    rw [splitB_eq] at h
    have he := hx.bool_inv
    cases t
    · exact ⟨_, h, Ex.pureV hg (by rw [ho]) (v := a.eval z) (by simp [execOp, ho, he, asBool]) (hρ z)⟩
    · exact ⟨_, h, Ex.pureV hg (by rw [ho]) (v := a.eval y) (by simp [execOp, ho, he, asBool]) (hρ y)⟩
  · exact h.elim
theorem ex_load {t : Nat} {x : Operand} (hT : TyOk P Γ) (ho : o.op = .load t x) (hg : Good c L) (hρ : ∀ x, Rel c (ρ x) (a.eval x)) (h : vcE P Γ np o ρ L j k) : ∃ e, k e ∧ Ex P o a c L np e := by
  simp only [vcE, ho, frc_eq] at h
  have hx := hρ x
  split at h
  · rename_i i hi
    have hi := hT _ _ hi
    split at h
    · rename_i cs hp
      rw [hp] at hx
      obtain ⟨b, off, us, he, hb, h1, h2⟩ := hx.vptr_inv
      obtain ⟨av, v, hk, hr, hv⟩ := ldC_sound hi h1 (fun j a ha => .pure (h2 j a ha)) h
      exact ⟨_, hk, Ex.pureV hg (by rw [ho]) (v := v) (by simp only [execOp, ho]; exact run_v (by rw [he]; exact hr)) hv⟩
    · rename_i b kk q hp
      rw [hp] at hx
      obtain ⟨e, hμ, hn, he⟩ := hx.ptr_inv
      obtain ⟨e', hμ', hB⟩ := hg.blk b (hg.dom b e hμ)
      rw [hμ] at hμ'; cases hμ'
      split at h
      · rename_i ty cs hL
        rw [hL] at hB
        cases hB with
        | box vs _ hh h2 =>
          split at h
          · have hlen := h2.length
            obtain ⟨av, v, hk, hr, hv⟩ := ldC_sound (b := e.b) (off := 0 * e.sz + q) (us := fun z => vs.getD (q + z) undef) hi (c := c) (fun z hz => by
              rw [List.length_drop] at hz
              rw [cell_of hh, List.getD_eq_getElem?_getD, Nat.zero_mul, Nat.zero_add, List.getElem?_toArray, List.getElem?_eq_getElem (by omega)]
              rfl) (fun z av hz => by
              rw [List.getElem?_drop] at hz
              obtain ⟨v, hv, hr'⟩ := h2.get _ hz
              rw [List.getD_eq_getElem?_getD, hv]
              exact hr') h
            exact ⟨_, hk, Ex.pureV hg (by rw [ho]) (v := v) (by simp only [execOp, ho]; exact run_v (by rw [he]; exact hr)) hv⟩
          · exact h.elim
      · rename_i ty sz xs hL
        rw [hL] at hB
        obtain ⟨y, hy, h⟩ := h
        obtain ⟨cur, vs, hh, h2, hs, hn', hz, h0, hc, hm, hcs, ht, h3⟩ := rows_at hB hn
        have hxl := hz y (List.mem_of_getElem? hy)
        have hkl : kk < xs.length := (List.getElem?_eq_some_iff.1 hy).1
        have hsz : e.n * sz ≤ cur.size := by rw [hcs]; exact Nat.mul_le_mul_right _ hc
        have hks : kk * sz + sz ≤ e.n * sz := by rw [← Nat.succ_mul]; exact Nat.mul_le_mul_right _ (by omega)
        obtain ⟨av, v, hk, hr, hv⟩ := ldC_sound (b := e.b) (off := kk * e.sz + q) (us := fun z => cur.toList.getD (kk * sz + (q + z)) undef) hi (c := c) (fun z hz' => by
          rw [List.length_drop, hxl] at hz'
          rw [cell_of hh, hs, ← Array.getElem?_toList, List.getD_eq_getElem?_getD, Nat.add_assoc, List.getElem?_eq_getElem (by simp; omega)]
          rfl) (fun z av ha => by
          have hq : q + z < sz := by
            have := (List.getElem?_eq_some_iff.1 ha).1
            rw [List.length_drop, hxl] at this
            omega
          rw [List.getElem?_drop, ← flatten_get hz hy hq] at ha
          obtain ⟨v, hv, hr'⟩ := h2.get _ ha
          rw [← ht, List.getElem?_take, if_pos (by omega)] at hv
          rw [List.getD_eq_getElem?_getD, hv]
          exact .pure hr') h
        exact ⟨_, hk, Ex.pureV hg (by rw [ho]) (v := v) (by simp only [execOp, ho]; exact run_v (by rw [he]; exact hr)) hv⟩
      · exact h.elim
    · exact h.elim
  · exact h.elim
theorem ex_nilCheck {x : Operand} (ho : o.op = .nilCheck x) (hg : Good c L) (hρ : ∀ x, Rel c (ρ x) (a.eval x)) (h : vcE P Γ np o ρ L j k) : ∃ e, k e ∧ Ex P o a c L np e := by
  simp only [vcE, ho, frc_eq] at h
  have hx := hρ x
  split at h
  · rename_i i kk q hp
    rw [hp] at hx
    obtain ⟨e, _, _, he⟩ := hx.ptr_inv
    exact ⟨_, h, Ex.pureV hg (by rw [ho]) (v := a.eval x) (by simp [execOp, ho, he]) hx⟩
  · rename_i cs hp
    rw [hp] at hx
    obtain ⟨b, off, us, he, _⟩ := hx.vptr_inv
    exact ⟨_, h, Ex.pureV hg (by rw [ho]) (v := a.eval x) (by simp [execOp, ho, he]) hx⟩
  · exact h.elim
theorem ex_unOp {op : UnOp} {t : Nat} {x : Operand} (ho : o.op = .unOp op t x) (hg : Good c L) (hρ : ∀ x, Rel c (ρ x) (a.eval x)) (h : vcE P Γ np o ρ L j k) : ∃ e, k e ∧ Ex P o a c L np e := by
  simp only [vcE, ho, frc_eq] at h
  have hx := hρ x
  split at h
  · rename_i b hp
    rw [hp] at hx
    have he := hx.bool_inv
    exact ⟨_, h, Ex.pureV hg (by rw [ho]) (v := .bool !b) (by simp [execOp, ho, he, Op.unary]) (.pure (.bool _))⟩
  · rename_i kk n hp
    rw [hp] at hx
    have he := hx.int_inv
    exact ⟨_, h, Ex.pureV hg (by rw [ho]) (v := .int kk (kk.wrap (0 - n))) (by simp [execOp, ho, he, Op.unary, Op.intArith]) (.pure (.int _ _))⟩
  · exact h.elim
theorem ex_convert {s d : Nat} {x : Operand} (hT : TyOk P Γ) (ho : o.op = .convert s d x) (hg : Good c L) (hρ : ∀ x, Rel c (ρ x) (a.eval x)) (h : vcE P Γ np o ρ L j k) : ∃ e, k e ∧ Ex P o a c L np e := by
  simp only [vcE, ho, frc_eq] at h
  have hx := hρ x
  split at h
  · rename_i i' i hi' hi
    have hi := hT _ _ hi
    obtain ⟨q, hq, hk⟩ := hi.und
    obtain ⟨q', hq', _⟩ := (hT _ _ hi').und
    split at h
    · rename_i kk hik
      rw [hik] at hk
      simp only [TK.ok] at hk
      subst hk
      split at h
      · rename_i k0 n hp
        rw [hp] at hx
        have he := hx.int_inv
        refine ⟨_, h, Ex.pureV hg (by rw [ho]) (v := .int kk (kk.wrap n)) ?_ (.pure (.int _ _))⟩
        simp only [execOp, ho]
        exact run_v (by simp [convert, run_underlying hq, run_underlying hq', he, Conv.intToInt])
      · exact h.elim
    · exact h.elim
  · exact h.elim
theorem F2.of_ops (hρ : ∀ x, Rel c (ρ x) (a.eval x)) : ∀ l : List Operand, F2 (Rel c) (l.map ρ) (l.map a.eval)
  | [] => .nil
  | x :: l => .cons (hρ x) (F2.of_ops hρ l)
theorem ex_makeFunc {f : Fn} {fs cs : Array Operand} (ho : o.op = .makeFunc f fs cs) (hg : Good c L) (hρ : ∀ x, Rel c (ρ x) (a.eval x)) (h : vcE P Γ np o ρ L j k) : ∃ e, k e ∧ Ex P o a c L np e := by
  cases f <;> simp only [vcE, ho, frcL_eq] at h <;> try exact h.elim
  rename_i g
  split at h
  · rename_i hfs
    have hfs : fs = #[] := by cases fs; simp_all
    refine ⟨_, h, Ex.pureV hg (by rw [ho]) (v := .func (.func g) #[] (cs.map a.eval)) (by simp [execOp, ho, Instr.makeFunc, hfs]) ?_⟩
    have h2 := F2.of_ops hρ cs.toList
    have := Rel.fn (c := c) g h2.length fun i x v hx hv => by
      obtain ⟨u, hu, hr⟩ := h2.get i hx
      rw [hu] at hv
      cases hv
      exact hr
    have e : cs.map a.eval = (cs.toList.map a.eval).toArray := by rw [← Array.toList_map, Array.toArray_toList]
    rw [e]
    exact this
  · exact h.elim
theorem ex_extract {x : Operand} {n : Nat} (ho : o.op = .extract x n) (hg : Good c L) (hρ : ∀ x, Rel c (ρ x) (a.eval x)) (h : vcE P Γ np o ρ L j k) : ∃ e, k e ∧ Ex P o a c L np e := by
  simp only [vcE, ho, frc_eq] at h
  have hx := hρ x
  split at h
  · rename_i vs hp
    rw [hp] at hx
    obtain ⟨us, he, h2⟩ := hx.tup_inv
    split at h
    · rename_i av hav
      obtain ⟨v, hv, hr⟩ := h2.get _ hav
      exact ⟨_, h, Ex.pureV hg (by rw [ho]) (v := v) (by simp [execOp, ho, he, Instr.extract, hv]) hr⟩
    · exact h.elim
  · exact h.elim
theorem ex_fieldAddr {t : Nat} {x : Operand} {f : Nat} (hT : TyOk P Γ) (ho : o.op = .fieldAddr t x f) (hg : Good c L) (hρ : ∀ x, Rel c (ρ x) (a.eval x)) (h : vcE P Γ np o ρ L j k) : ∃ e, k e ∧ Ex P o a c L np e := by
  simp only [vcE, ho, frc_eq, frcL_eq] at h
  have hx := hρ x
  split at h
  · rename_i i hi
    have hi := hT _ _ hi
    obtain ⟨q, hq, hk⟩ := hi.und
    split at h
    · rename_i fs hik
      rw [hik] at hk
      obtain ⟨F, rfl, hF, hF0⟩ := hk
      split at h
      · rename_i off sz hf
        obtain ⟨fd, hfd, hoff⟩ : ∃ fd, F[f]? = some fd ∧ fd.offset = off ∧ (P.info? fd.type).map (·.size) = some sz := by
          have : (F.toList.map fun f => (f.offset, (P.info? f.type).map (·.size)))[f]? = some (off, some sz) := by
            rw [hF, List.getElem?_map, hf]
            rfl
          obtain ⟨fd, hfd, he⟩ := get_map this
          simp only [Prod.mk.injEq] at he
          exact ⟨fd, by simpa using hfd, he.1.symm, he.2.symm⟩
        have hsz : sz ≠ 0 := by
          have := List.all_eq_true.1 hF0 _ (List.mem_of_getElem? hf)
          intro h0
          subst h0
          simp at this
        have hrun : ∀ A : Addr, (Instr.fieldAt t (.pointer (some A)) f).run P c.w = .ok (.pointer (some (A.add off))) c.w := fun A => by
          obtain ⟨hoff, hty⟩ := hoff
          obtain ⟨ti, hti, hts⟩ := Option.map_eq_some_iff.1 hty
          simp [Instr.fieldAt, run_underlying hq, hfd, Instr.sureAddr, fieldPlace, sizeOf, typeInfo, hti, hts, hsz, hoff]
        split at h
        · rename_i cs hp
          rw [hp] at hx
          obtain ⟨b, o', us, he, hb, h1, h2⟩ := hx.vptr_inv
          refine ⟨_, h, Ex.pureV hg (by rw [ho]) (v := .pointer (some ⟨b, o' + off, none⟩)) (by simp only [execOp, ho]; exact run_v (by rw [he, hrun, add_at])) ?_⟩
          exact .pure (.vptr b _ (fun z => us (off + z)) hb (fun z hz => by rw [Nat.add_assoc]; exact h1 _ (by rw [List.length_drop] at hz; omega)) fun z av hz => h2 _ _ (by rw [List.getElem?_drop] at hz; exact hz))
        · rename_i b kk q' hp
          rw [hp] at hx
          obtain ⟨e, hμ, hn, he⟩ := hx.ptr_inv
          exact ⟨_, h, Ex.pureV hg (by rw [ho]) (v := .pointer (some ⟨e.b, kk * e.sz + q' + off, none⟩)) (by simp only [execOp, ho]; exact run_v (by rw [he, hrun, add_at])) (by rw [Nat.add_assoc]; exact .ptr hμ hn)⟩
        · exact h.elim
      · exact h.elim
    · exact h.elim
  · exact h.elim
end
end Go.Proofs.Ytcfbhojpemjjpaa
