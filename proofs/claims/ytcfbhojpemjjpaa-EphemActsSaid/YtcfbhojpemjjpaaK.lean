/- An operation does what the walk says of it: numbers, places, parts of slices, maps that are read. -/
import Derived.Test.YtcfbhojpemjjpaaJ
import Derived.Lib.SliceRun
set_option linter.unusedVariables false
set_option linter.unusedSimpArgs false
namespace Go.Proofs.Ytcfbhojpemjjpaa
open Go Go.RowKit

section
variable {P : Program} {Γ : Nat → Option TI} {o : Oper} {a : Act} {c : Cx} {L : Nat → Blk} {np j : Nat} {ρ : Operand → AV} {k : Eff → Prop}

theorem eqFields_ok {P : Program} {w : World} {c : Cx} (d : Nat) (xs ys : Array Value) : ∀ (fs : List Field) (i : Nat) (as bs : List AV) (t : Bool),
    ((fs.zipIdx i).all fun p => !(p.1.name == "_") && Nat.beq p.1.offset p.2 && (match P.underlying p.1.type with | some (.int _) => true | _ => false)) = true → eqCs as bs = some t → fs.length = as.length →
    (∀ j x, as[j]? = some x → ∃ v, xs[i + j]? = some v ∧ Rel c x v) → (∀ j x, bs[j]? = some x → ∃ v, ys[i + j]? = some v ∧ Rel c x v) → (Op.eqFields (d + 1) xs ys fs).run P w = .ok t w
  | [], i, [], bs, t, _, he, _, _, _ => by
    cases bs with
    | nil => simp [eqCs] at he; subst he; rfl
    | cons b bs => simp [eqCs] at he
  | [], i, x :: as, bs, t, _, _, hl, _, _ => by simp at hl
  | f :: fs, i, [], bs, t, _, _, hl, _, _ => by simp at hl
  | f :: fs, i, x :: as, bs, t, hf, he, hl, hx, hy => by
    cases bs with
    | nil => cases x <;> simp [eqCs] at he
    | cons y bs =>
      simp only [List.zipIdx_cons, List.all_cons, Bool.and_eq_true] at hf
      obtain ⟨⟨⟨h1, h2⟩, h3⟩, hf⟩ := hf
      have h1 : f.name ≠ "_" := by simpa using h1
      have h2 := Nat.eq_of_beq_eq_true h2
      obtain ⟨vx, hvx, hrx⟩ := hx 0 x rfl
      obtain ⟨vy, hvy, hry⟩ := hy 0 y rfl
      rw [Nat.add_zero] at hvx hvy
      obtain ⟨ki, hu⟩ : ∃ ki, P.underlying f.type = some (.int ki) := by
        cases hu : P.underlying f.type with
        | none => rw [hu] at h3; cases h3
        | some dd => rw [hu] at h3; cases dd <;> first | exact ⟨_, rfl⟩ | cases h3
      have hag : (isAgg f.type).run P w = .ok false w := by simp [isAgg, run_underlying hu]
      have hpx : (part f.type xs f.offset).run P w = .ok vx w := by simp [part, hag, h2, hvx]
      have hpy : (part f.type ys f.offset).run P w = .ok vy w := by simp [part, hag, h2, hvy]
      cases x <;> try (simp [eqCs] at he; done)
      cases y <;> try (simp [eqCs] at he; done)
      rename_i kx nx ky ny
      simp only [eqCs] at he
      obtain rfl := hrx.int_inv
      obtain rfl := hry.int_inv
      split at he
      · rename_i t' hk ht'
        have hk : kx = ky := of_decide_eq_true hk
        subst hk
        cases he
        have ih := eqFields_ok (w := w) (c := c) d xs ys fs (i + 1) as bs t' hf ht' (by simpa using hl) (fun q z hz => by obtain ⟨v, hv, hr⟩ := hx (q + 1) z (by simpa using hz); exact ⟨v, by rw [← hv]; congr 1; omega, hr⟩)
          (fun q z hz => by obtain ⟨v, hv, hr⟩ := hy (q + 1) z (by simpa using hz); exact ⟨v, by rw [← hv]; congr 1; omega, hr⟩)
        have hb := run_equalIn_int (P := P) w d f.type kx ki nx ny hu
        simp only [Op.eqFields, if_pos h1, Sem.run_bind, hpx, hpy, hb, Result.andThen_ok]
        cases hb' : (nx == ny)
        · simp
        · simpa using ih
      · cases he
theorem eqAgg_ok {t n : Nat} {w : World} (he : EqF P t n) {as bs : List AV} {us vs : List Value} (ha : F2 (Rel c) as us) (hb : F2 (Rel c) bs vs) {q : Bool} (hq : eqCs as bs = some q) (hn : as.length = n) (x y : Operand) (op : BinOp) :
    (eqGuard op t x y (.agg us.toArray) (.agg vs.toArray)).run P w = .ok () w ∧ (Op.equal t (.agg us.toArray) (.agg vs.toArray)).run P w = .ok q w := by
  obtain ⟨h1, h2, F, hF, hFn, hall⟩ := he
  refine ⟨run_eqGuard_agg (w := w) op t x y _ _ h1, ?_⟩
  have hf : P.fieldsOf t = F := by simp [Program.fieldsOf, hF]
  have := run_equalIn_struct (P := P) w 9999 t us.toArray vs.toArray (by rw [hf]; exact hF) h2
  unfold Op.equal Op.maxDepth
  rw [this, hf]
  exact eqFields_ok (c := c) 9998 _ _ F.toList 0 as bs q hall hq (by simp [hFn, hn]) (fun j x hx => by simpa using ha.get j hx) (fun j x hx => by simpa using hb.get j hx)

theorem bin_int {op : BinOp} {kk : IntKind} {x y : Int} {t : Nat} {K : AV → Prop} (h : intOp op kk x y K) : ∃ v u, K v ∧ Rel c v u ∧ (binOp op t (.int kk x) (.int kk y)).run P c.w = .ok u c.w := by
  cases op <;> simp only [intOp] at h
  case quo => exact ⟨_, _, h.2, .pure (.int _ _), by simp [binOp, Op.intDiv, h.1]⟩
  case rem => exact ⟨_, _, h.2, .pure (.int _ _), by simp [binOp, Op.intDiv, h.1]⟩
  case add => exact ⟨_, _, h, .pure (.int _ _), by simp [binOp, Op.intArith]⟩
  case sub => exact ⟨_, _, h, .pure (.int _ _), by simp [binOp, Op.intArith]⟩
  case mul => exact ⟨_, _, h, .pure (.int _ _), by simp [binOp, Op.intArith]⟩
  case or => exact ⟨_, _, h, .pure (.int _ _), by simp [binOp, Op.intBits]⟩
  case and => exact ⟨_, _, h, .pure (.int _ _), by simp [binOp, Op.intBits]⟩
  all_goals exact ⟨_, _, h, .pure (.bool _), by simp [binOp, Op.intCmp]⟩
theorem ex_binOp {op : BinOp} {t : Nat} {x y : Operand} {t' : Nat} (hT : TyOk P Γ) (ho : o.op = .binOp op t x y t') (hg : Good c L) (hρ : ∀ x, Rel c (ρ x) (a.eval x)) (h : vcE P Γ np o ρ L j k) : ∃ e, k e ∧ Ex P o a c L np e := by
  simp only [vcE, ho, frc_eq] at h
  have hx := hρ x
  have hy := hρ y
  unfold vcBin at h
  split at h
  · rename_i ka p kb q hp hq
    rw [hp] at hx
    rw [hq] at hy
    have ex := hx.int_inv
    have ey := hy.int_inv
    split at h
    · obtain ⟨h0, h⟩ := h
      exact ⟨_, h, Ex.pureV hg (by rw [ho]) (by simp only [execOp, ho]; exact run_v (by rw [ex, ey]; simp [eqGuard_at_int, binOp, Op.shift, show ¬ q < 0 by omega])) (.pure (.int _ _))⟩
    · obtain ⟨h0, h⟩ := h
      exact ⟨_, h, Ex.pureV hg (by rw [ho]) (by simp only [execOp, ho]; exact run_v (by rw [ex, ey]; simp [eqGuard_at_int, binOp, Op.shift, show ¬ q < 0 by omega])) (.pure (.int _ _))⟩
    · split at h
      · rename_i hk
        have hk : ka = kb := of_decide_eq_true hk
        subst hk
        obtain ⟨v, u, hk, hr, hrun⟩ := bin_int (P := P) (c := c) (t := t) h
        exact ⟨_, hk, Ex.pureV hg (by rw [ho]) (by simp only [execOp, ho]; exact run_v (by rw [ex, ey]; simp [eqGuard_at_int, hrun])) hr⟩
      · exact h.elim
  · rename_i p q hp hq
    rw [hp] at hx
    rw [hq] at hy
    have ex := hx.bool_inv
    have ey := hy.bool_inv
    split at h
    · rename_i i hi
      obtain ⟨d, hd, hk⟩ := (hT _ _ hi).und
      split at h
      · rename_i hik
        rw [hik] at hk
        simp only [TK.ok] at hk
        subst hk
        have hb := run_equalIn_bool' (P := P) c.w 9999 t p q hd
        split at h
        · exact ⟨_, h, Ex.pureV hg (by rw [ho]) (v := .bool (p == q)) (by simp only [execOp, ho]; exact run_v (by rw [ex, ey]; simp [eqGuard_at_bool, binOp, Op.equal, Op.maxDepth, hb])) (.pure (.bool _))⟩
        · exact ⟨_, h, Ex.pureV hg (by rw [ho]) (v := .bool (!(p == q))) (by simp only [execOp, ho]; exact run_v (by rw [ex, ey]; simp [eqGuard_at_bool, binOp, Op.equal, Op.maxDepth, hb])) (.pure (.bool _))⟩
        · exact h.elim
      · exact h.elim
    · exact h.elim
  · rename_i p q hp hq
    rw [hp] at hx
    rw [hq] at hy
    obtain ⟨us, ex, hu⟩ := hx.agg_inv
    obtain ⟨vs, ey, hv⟩ := hy.agg_inv
    split at h
    · rename_i i hi
      have hi := hT _ _ hi
      split at h
      · rename_i hieq
        simp only [Bool.and_eq_true] at hieq
        obtain ⟨hieq, hlen⟩ := hieq
        have hlen := Nat.eq_of_beq_eq_true hlen
        split at h
        · rename_i t0 ht0
          obtain ⟨hgd, heq⟩ := eqAgg_ok (P := P) (c := c) (w := c.w) (hi.eq hieq) hu hv ht0 hlen x y op
          split at h
          · exact ⟨_, h, Ex.pureV hg (by rw [ho]) (v := .bool t0) (by simp only [execOp, ho]; exact run_v (by rw [ex, ey]; simp [hgd, binOp, heq])) (.pure (.bool _))⟩
          · exact ⟨_, h, Ex.pureV hg (by rw [ho]) (v := .bool !t0) (by simp only [execOp, ho]; exact run_v (by rw [ex, ey]; simp [hgd, binOp, heq])) (.pure (.bool _))⟩
          · exact h.elim
        · exact h.elim
      · exact h.elim
    · exact h.elim
  · rename_i xs hp hq
    rw [hp] at hx
    rw [hq] at hy
    have ey := hy.nilsl_inv
    obtain ⟨A, cc, ex, _, hat⟩ := hx.sl_inv.at_
    have hA : xs ≠ [] → A.isNone = false := fun h0 => by
      have : 0 < xs.length := List.length_pos_iff.2 h0
      obtain ⟨b, off, sz, us, rfl, _⟩ := hat this
      rfl
    split at h
    · rename_i i hi
      obtain ⟨d, hd, hk⟩ := (hT _ _ hi).und
      split at h
      · rename_i e hik
        rw [hik] at hk
        simp only [TK.ok] at hk
        subst hk
        have hb := Lib.run_equalIn_slice_nil (P := P) c.w 9999 t e A xs.length cc 0 0 hd
        split at h
        · exact ⟨_, h A.isNone hA, Ex.pureV hg (by rw [ho]) (v := .bool A.isNone) (by simp only [execOp, ho]; exact run_v (by rw [ex, ey]; simp [eqGuard, binOp, Op.equal, Op.maxDepth, hb])) (.pure (.bool _))⟩
        · exact ⟨_, h (!A.isNone) (fun h0 => by rw [hA h0]; rfl), Ex.pureV hg (by rw [ho]) (v := .bool !A.isNone) (by simp only [execOp, ho]; exact run_v (by rw [ex, ey]; simp [eqGuard, binOp, Op.equal, Op.maxDepth, hb])) (.pure (.bool _))⟩
        · exact h.elim
      · exact h.elim
    · exact h.elim
  · exact h.elim
theorem run_indexAt {t e : Nat} {w : World} {q : TI} (ht : P.underlying t = some (.slice e)) (he : TyF P e q) {kk : IntKind} {m : Nat} {n : Nat} (hm : m < n) (b off cc : Nat) :
    (Instr.indexAt t (.slice (some ⟨b, off, none⟩) n cc) (.int kk (m : Int))).run P w = .ok (.pointer (some ⟨b, off + m * q.sz, none⟩)) w := by
  simp [Instr.indexAt, asIntOf, run_underlying ht, run_sizeOf_of he, hm, add_at]
theorem ex_indexAddr {t : Nat} {x y : Operand} (hT : TyOk P Γ) (ho : o.op = .indexAddr t x y) (hg : Good c L) (hρ : ∀ x, Rel c (ρ x) (a.eval x)) (h : vcE P Γ np o ρ L j k) : ∃ e, k e ∧ Ex P o a c L np e := by
  simp only [vcE, ho, frc_eq] at h
  have hx := hρ x
  have hy := hρ y
  split at h
  · rename_i i hi
    obtain ⟨d, hd, hk⟩ := (hT _ _ hi).und
    split at h
    · rename_i e hik
      rw [hik] at hk
      simp only [TK.ok] at hk
      subst hk
      split at h
      · rename_i q hq
        have hq := hT _ _ hq
        split at h
        · rename_i kk n hn
          rw [hn] at hy
          have ey := hy.int_inv
          unfold vcIdx at h
          simp only [frcL_eq] at h
          split at h
          · rename_i xs hp
            rw [hp] at hx
            obtain ⟨m, z, rfl, hz, h⟩ := h
            split at h
            · rename_i hlen
              have hlen := Nat.eq_of_beq_eq_true hlen
              obtain ⟨b, off, cc, ex, hlt, hr⟩ := hx.sl_inv.elem hz
              exact ⟨_, h, Ex.pureV hg (by rw [ho]) (by simp only [execOp, ho]; exact run_v (by rw [ex, ey]; exact run_indexAt hd hq hlt b off cc)) (by rw [← hlen]; exact hr)⟩
            · exact h.elim
          · rename_i xs hp
            rw [hp] at hx
            obtain ⟨m, z, rfl, hz, h⟩ := h
            split at h
            · rename_i hlen
              have hlen := Nat.eq_of_beq_eq_true hlen
              obtain ⟨b, off, cc, ex, hlt, hr⟩ := hx.slc_inv.1.elem hz
              exact ⟨_, h, Ex.pureV hg (by rw [ho]) (by simp only [execOp, ho]; exact run_v (by rw [ex, ey]; exact run_indexAt hd hq hlt b off cc)) (by rw [← hlen]; exact hr)⟩
            · exact h.elim
          · rename_i b hp
            rw [hp] at hx
            obtain ⟨en, hμ, ex⟩ := hx.rowf_inv
            obtain ⟨en', hμ', hB⟩ := hg.blk b (hg.dom b en hμ)
            rw [hμ] at hμ'; cases hμ'
            split at h
            · rename_i ty s xs hL
              rw [hL] at hB
              split at h
              · rename_i hs
                have hs := Nat.eq_of_beq_eq_true hs
                obtain ⟨m, rfl, hlt, h⟩ := h
                have hnn : en.nil = false := by
                  cases hn : en.nil with
                  | false => rfl
                  | true => rw [rows_nil hB hn] at hlt; simp at hlt
                obtain ⟨cur, vs, hh, h2, hsz, hn', _⟩ := rows_at hB hnn
                rw [Ent.val_at hnn] at ex
                exact ⟨_, h, Ex.pureV hg (by rw [ho]) (v := .pointer (some ⟨en.b, m * en.sz + 0, none⟩)) (by simp only [execOp, ho]; exact run_v (by rw [ex, ey, run_indexAt hd hq (by omega), hsz, hs]; simp)) (.ptr hμ hnn)⟩
              · exact h.elim
            · exact h.elim
          · rename_i b off len hp
            rw [hp] at hx
            obtain ⟨en, hμ, hcase⟩ := hx.row_inv
            obtain ⟨en', hμ', hB⟩ := hg.blk b (hg.dom b en hμ)
            rw [hμ] at hμ'; cases hμ'
            split at h
            · rename_i ty s xs hL
              rw [hL] at hB
              split at h
              · rename_i hs
                have hs := Nat.eq_of_beq_eq_true hs
                obtain ⟨m, rfl, hlt, h⟩ := h
                rcases hcase with ⟨hnn, cc, oo, ⟨hoc, hol, hoo⟩, ex⟩ | ⟨_, _, hl0, _⟩
                · obtain ⟨cur, vs, hh, h2, hsz, hn', _, _, hcap, _⟩ := rows_at hB hnn
                  obtain rfl : oo = off * en.sz := by rcases hoo with h | h <;> first | exact h | omega
                  exact ⟨_, h, Ex.pureV hg (by rw [ho]) (v := .pointer (some ⟨en.b, (off + m) * en.sz + 0, none⟩)) (by simp only [execOp, ho]; exact run_v (by rw [ex, ey, run_indexAt hd hq hlt, hsz, hs, Nat.add_mul]; simp)) (.ptr hμ hnn)⟩
                · omega
              · exact h.elim
            · exact h.elim
          · exact h.elim
        · exact h.elim
      · exact h.elim
    · exact h.elim
  · exact h.elim
theorem ex_index {t : Nat} {x y : Operand} (hT : TyOk P Γ) (ho : o.op = .index t x y) (hg : Good c L) (hρ : ∀ x, Rel c (ρ x) (a.eval x)) (h : vcE P Γ np o ρ L j k) : ∃ e, k e ∧ Ex P o a c L np e := by
  simp only [vcE, ho, frc_eq] at h
  have hx := hρ x
  have hy := hρ y
  split at h
  · rename_i i hi
    have hi := hT _ _ hi
    obtain ⟨d, hd, hk⟩ := hi.und
    split at h
    · rename_i n e hik
      rw [hik] at hk
      simp only [TK.ok] at hk
      subst hk
      split at h
      · rename_i q hq
        have hq := hT _ _ hq
        split at h
        · rename_i cs kk nn hp hn
          rw [hp] at hx
          rw [hn] at hy
          have ey := hy.int_inv
          obtain ⟨vs, ex, h2⟩ := hx.agg_inv
          split at h
          · rename_i hs
            simp only [Bool.and_eq_true, Bool.not_eq_true'] at hs
            obtain ⟨hs, hag⟩ := hs
            have hs := Nat.eq_of_beq_eq_true hs
            obtain ⟨m, v, rfl, hv, hm, h⟩ := h
            obtain ⟨u, hu, hr⟩ := h2.get _ hv
            refine ⟨_, h, Ex.pureV hg (by rw [ho]) (v := u) ?_ hr⟩
            simp only [execOp, ho]
            refine run_v ?_
            rw [ex, ey]
            simp [Instr.index, asIntOf, run_underlying hd, run_sizeOf_of hq, hs, hm, part, run_isAgg_of hq, hag, hu]
          · exact h.elim
        · exact h.elim
      · exact h.elim
    · exact h.elim
  · exact h.elim
end
end Go.Proofs.Ytcfbhojpemjjpaa
