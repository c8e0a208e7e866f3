/- An operation does what the walk says of it: maps of whole numbers. -/
import Derived.Test.YtcfbhojpemjjpaaR
set_option linter.unusedVariables false
set_option linter.unusedSimpArgs false
namespace Go.Proofs.Ytcfbhojpemjjpaa
open Go Go.RowKit

section
variable {P : Program} {Γ : Nat → Option TI} {o : Oper} {a : Act} {c : Cx} {L : Nat → Blk} {np j : Nat} {ρ : Operand → AV} {k : Eff → Prop}

/-- What is found under a number. -/
theorem find_map {R : AV → Value → Prop} (kt : IntKind) (n : Int) : ∀ {es : List (Int × AV)} {l : List MapEntry} (_ : F2 (fun (p : Int × AV) (m : MapEntry) => m.key = .int kt p.1 ∧ R p.2 m.val) es l) (i : Nat),
    (mapGet es n = none ∧ (∀ v, mapSet es n v = es ++ [(n, v)]) ∧ mapDel es n = es ∧ Instr.findNow (.int kt) (.int kt n) l i = some none) ∨
    ∃ (q : Nat) (v : AV) (m : MapEntry), mapGet es n = some v ∧ l[q]? = some m ∧ m.key = .int kt n ∧ R v m.val ∧ (∀ v, mapSet es n v = es.set q (n, v)) ∧ mapDel es n = es.eraseIdx q ∧ q < es.length ∧ Instr.findNow (.int kt) (.int kt n) l i = some (some (i + q, m.val)) := by
  intro es l h
  induction h with
  | nil => exact fun i => .inl ⟨rfl, fun _ => rfl, rfl, rfl⟩
  | @cons p m es l hr ht ih =>
    intro i
    obtain ⟨hk, hv⟩ := hr
    by_cases hp : p.1 = n
    · refine .inr ⟨0, p.2, m, by simp [mapGet, List.find?_cons, hp], rfl, by rw [hk, hp], hv, fun v => by simp [mapSet, hp], by simp [mapDel, hp], by simp, by simp [Instr.findNow, Instr.sameNow, hk, hp]⟩
    · have hg : mapGet (p :: es) n = mapGet es n := by
        unfold mapGet
        rw [List.find?_cons_of_neg (by simpa using hp)]
      have hf : Instr.findNow (.int kt) (.int kt n) (m :: l) i = Instr.findNow (.int kt) (.int kt n) l (i + 1) := by
        have : (n == p.1) = false := by simpa using fun h => hp h.symm
        simp [Instr.findNow, Instr.sameNow, hk, this]
      rcases ih (i + 1) with ⟨h1, h2, h3, h4⟩ | ⟨q, v, m', h1, h2, h3, h4, h5, h6, h7, h8⟩
      · exact .inl ⟨by rw [hg, h1], fun v => by simp [mapSet, hp, h2], by simp [mapDel, hp, h3], by rw [hf, h4]⟩
      · refine .inr ⟨q + 1, v, m', by rw [hg, h1], by simpa using h2, h3, h4, fun v => by simp [mapSet, hp, h5], by simp [mapDel, hp, h6], by simpa using h7, ?_⟩
        rw [hf, h8]
        congr 3
        omega
theorem one_zero {q : TI} {e : Nat} (hq : TyF P e q) (ha : q.k.isAgg = false) {z : AV} (hz : q.z = [z]) : ∃ v : Value, R0 c.w c.ok z v ∧ ∀ w, (zeroValue e).run P w = .ok v w := by
  obtain ⟨it, v, hit, hzz, h1, hcs⟩ := hq.one ha
  refine ⟨v, ?_, fun w => by simp [zeroValue, typeInfo, hit, hzz]⟩
  have : v.cells = #[v] := by cases v <;> first | rfl | cases h1
  rw [this, hz] at hcs
  simp only [List.map_cons, List.map_nil, List.cons.injEq, and_true] at hcs
  rw [← hcs]
  exact ofV_r0 _ _ _
theorem ex_lookup {t : Nat} {m x : Operand} {cok : Bool} (hT : TyOk P Γ) (ho : o.op = .lookup t m x cok) (hg : Good c L) (hρ : ∀ x, Rel c (ρ x) (a.eval x)) (h : vcE P Γ np o ρ L j k) : ∃ e, k e ∧ Ex P o a c L np e := by
  simp only [vcE, ho, frc_eq] at h
  have hm := hρ m
  have hx := hρ x
  split at h
  · rename_i i hi
    obtain ⟨d, hd, hk⟩ := (hT _ _ hi).und
    split at h
    · rename_i kt e hik
      rw [hik] at hk
      simp only [TK.ok] at hk
      subst hk
      split at h
      · rename_i qk hqk
        obtain ⟨dk, hdk, hkk⟩ := (hT _ _ hqk).und
        split at h
        · rename_i kq hikq
          rw [hikq] at hkk
          simp only [TK.ok] at hkk
          subst hkk
          split at h
          · rename_i q hq
            have hq := hT _ _ hq
            split at h
            · rename_i b kx n hp hn
              rw [hp] at hm
              rw [hn] at hx
              have ex := hx.int_inv
              obtain ⟨e', hμ, hnn, em⟩ := hm.mp_inv
              obtain ⟨e'', hμ', hB⟩ := hg.blk b (hg.dom b e' hμ)
              rw [hμ] at hμ'; cases hμ'
              split at h
              · rename_i kk es hL
                rw [hL] at hB
                split at h
                · rename_i hc
                  simp only [Bool.and_eq_true, decide_eq_true_eq] at hc
                  obtain ⟨rfl, rfl⟩ := hc
                  cases hB with
                  | map _ ms clock hh h2 =>
                  obtain ⟨r, hr, h⟩ := h
                  have hck := fun em => MapKept.run_checkKey (P := P) (w := c.w) (k := .int kq n) hdk rfl em 9999
                  have hrun : ∀ {u : Value} {found : Bool} {r : Option (Nat × Value)}, (Instr.findKey kt (.int kq n) ms.toList).run P c.w = .ok r c.w → (match r with | some p => u = p.2 ∧ found = true | none => found = false ∧ (zeroValue e).run P c.w = .ok u c.w) →
                      (execOp a.eval o).run P c.w = .ok (.value (if cok then .tuple #[u, .bool found] else u)) c.w := fun {u found r} hf hr => by
                    simp only [execOp, ho]
                    refine run_v ?_
                    rw [ex, em]
                    simp only [Instr.lookup, Sem.run_bind, run_underlying hd, Result.andThen_ok, MapKept.run_getObj_map hh, hck, Sem.run_pure, hf]
                    rcases r with _ | ⟨i, v⟩
                    · obtain ⟨rfl, hz⟩ := hr
                      simp [hz]
                    · obtain ⟨rfl, rfl⟩ := hr
                      simp
                  rcases find_map kq n h2 0 with ⟨g1, _, _, g4⟩ | ⟨p, v, m', g1, _, _, g4, _, _, _, g8⟩
                  · rw [g1] at hr
                    subst hr
                    have hf := MapKept.run_findKey (P := P) (w := c.w) hdk g4
                    split at h
                    · rename_i hh1; cases hh1
                    · split at h
                      · rename_i z hz ha
                        obtain ⟨u, hu, hz0⟩ := one_zero (c := c) hq ha hz
                        refine ⟨_, h, Ex.pureV hg (by rw [ho]) (hrun (u := u) (found := false) hf ⟨rfl, hz0 _⟩) ?_⟩
                        exact .pure (.tup (vs := [u, .bool false]) rfl fun i a v h1 h2 => by
                          rcases i with _ | _ | i <;> simp at h1 h2
                          · subst h1; subst h2; exact hu
                          · subst h1; subst h2; exact .bool _)
                      · exact h.elim
                    · rename_i hh1; cases hh1
                    · split at h
                      · rename_i z hz ha
                        obtain ⟨u, hu, hz0⟩ := one_zero (c := c) hq ha hz
                        exact ⟨_, h, Ex.pureV hg (by rw [ho]) (hrun (u := u) (found := false) hf ⟨rfl, hz0 _⟩) (.pure hu)⟩
                      · exact h.elim
                  · rw [g1] at hr
                    subst hr
                    have hf := MapKept.run_findKey (P := P) (w := c.w) hdk g8
                    split at h
                    · rename_i v' hh1
                      cases hh1
                      refine ⟨_, h, Ex.pureV hg (by rw [ho]) (hrun (u := m'.val) (found := true) hf ⟨rfl, rfl⟩) ?_⟩
                      exact .pure (.tup (vs := [m'.val, .bool true]) rfl fun i a v h1 h2 => by
                        rcases i with _ | _ | i <;> simp at h1 h2
                        · subst h1; subst h2; exact g4
                        · subst h1; subst h2; exact .bool _)
                    · rename_i hh1; cases hh1
                    · rename_i v' hh1
                      cases hh1
                      exact ⟨_, h, Ex.pureV hg (by rw [ho]) (hrun (u := m'.val) (found := true) hf ⟨rfl, rfl⟩) (.pure g4)⟩
                    · rename_i hh1; cases hh1
                · exact h.elim
              · exact h.elim
            · exact h.elim
          · exact h.elim
        · exact h.elim
      · exact h.elim
    · exact h.elim
  · exact h.elim
theorem pureC_r0 {av : AV} {v : Value} (h : Rel c av v) (hp : av.pureC = true) : R0 c.w c.ok av v := by
  cases h with
  | pure h => exact h
  | _ => cases hp
theorem F2.modify {α β : Type} {R : α → β → Prop} {l : List α} {m : List β} (h : F2 R l m) (i : Nat) (f : β → β) {a : α} (hr : ∀ b, m[i]? = some b → R a (f b)) : F2 R (l.set i a) (m.modify i f) := by
  induction h generalizing i with
  | nil => simpa using F2.nil
  | cons h0 ht ih => cases i with
    | zero => exact .cons (hr _ rfl) ht
    | succ i => simpa using F2.cons h0 (ih i fun b hb => hr b (by simpa using hb))
theorem F2.erase {α β : Type} {R : α → β → Prop} {l : List α} {m : List β} (h : F2 R l m) (i : Nat) : F2 R (l.eraseIdx i) (m.eraseIdx i) := by
  induction h generalizing i with
  | nil => simpa using F2.nil
  | cons h0 ht ih => cases i with
    | zero => exact ht
    | succ i => simpa using F2.cons h0 (ih i)
theorem ex_mapUpdate {t : Nat} {m x y : Operand} (hT : TyOk P Γ) (ho : o.op = .mapUpdate t m x y) (hg : Good c L) (hρ : ∀ x, Rel c (ρ x) (a.eval x)) (h : vcE P Γ np o ρ L j k) : ∃ e, k e ∧ Ex P o a c L np e := by
  simp only [vcE, ho, frc_eq] at h
  have hm := hρ m
  have hx := hρ x
  have hy := hρ y
  split at h
  · rename_i i hi
    obtain ⟨d, hd, hk⟩ := (hT _ _ hi).und
    split at h
    · rename_i kt e hik
      rw [hik] at hk
      simp only [TK.ok] at hk
      subst hk
      split at h
      · rename_i qk hqk
        obtain ⟨dk, hdk, hkk⟩ := (hT _ _ hqk).und
        split at h
        · rename_i kq hikq
          rw [hikq] at hkk
          simp only [TK.ok] at hkk
          subst hkk
          split at h
          · rename_i b kx n hp hn
            rw [hp] at hm
            rw [hn] at hx
            have ex := hx.int_inv
            obtain ⟨e', hμ, hnn, em⟩ := hm.mp_inv
            obtain ⟨e'', hμ', hB⟩ := hg.blk b (hg.dom b e' hμ)
            rw [hμ] at hμ'; cases hμ'
            split at h
            · rename_i kk es hL
              rw [hL] at hB
              split at h
              · rename_i hc
                simp only [Bool.and_eq_true, decide_eq_true_eq] at hc
                obtain ⟨⟨rfl, rfl⟩, hpc⟩ := hc
                cases hB with
                | map _ ms clock hh h2 =>
                have hck := fun em => MapKept.run_checkKey (P := P) (w := c.w) (k := .int kq n) hdk rfl em 9999
                have hyp : R0 c.w c.ok (ρ y) (a.eval y) := pureC_r0 hy hpc
                rcases find_map kq n h2 0 with ⟨_, g2, _, g4⟩ | ⟨p, v, m', _, g2, g3, _, g5, _, _, g8⟩
                · have hf := MapKept.run_findKey (P := P) (w := c.w) hdk g4
                  obtain ⟨d, hd', hs⟩ := Stp.write (np := np) (rd := [b]) (x := .und) (v := undef) hg (.map (ms.push { key := .int kq n, val := a.eval y, born := clock }) (clock + 1)) hμ hnn (B := .map kq (mapSet es n (ρ y))) rfl
                    (fun d hd hok hrel hr0 => by
                      refine .map hnn _ _ (by rw [hd]; exact World.putObj_heap_same (hg.lt ⟨b, e', hμ, hnn, rfl⟩)) ?_
                      rw [g2, Array.toList_push]
                      exact (h2.imp fun _ _ _ h => ⟨h.1, hr0 _ _ h.2⟩).append (.cons ⟨rfl, hr0 _ _ hyp⟩ .nil)) (fun _ _ => .und)
                  refine ⟨_, h, Ex.skip (by rw [ho]) ?_ hs⟩
                  simp only [execOp, ho]
                  refine run_u ?_
                  rw [ex, em, hd']
                  simp [Instr.mapUpdate, run_underlying hd, MapKept.run_getObj_map hh, hck, hf, MapKept.run_setObj_map _ hh, World.putObj]
                · have hf := MapKept.run_findKey (P := P) (w := c.w) hdk g8
                  have hkey : (((ms[0 + p]?).map (·.key)).getD (.int kq n)) = .int kq n := by
                    rw [Nat.zero_add, ← Array.getElem?_toList, g2]
                    exact g3
                  have hks := MapKept.run_keyThatStays (P := P) (w := c.w) (d := .int kq) (k := .int kq n) rfl
                  obtain ⟨d, hd', hs⟩ := Stp.write (np := np) (rd := [b]) (x := .und) (v := undef) hg (.map (ms.modify (0 + p) fun e => { e with key := .int kq n, val := a.eval y }) clock) hμ hnn (B := .map kq (mapSet es n (ρ y))) rfl
                    (fun d hd hok hrel hr0 => by
                      refine .map hnn _ _ (by rw [hd]; exact World.putObj_heap_same (hg.lt ⟨b, e', hμ, hnn, rfl⟩)) ?_
                      rw [g5, Array.toList_modify, Nat.zero_add]
                      exact (h2.imp fun _ _ _ h => ⟨h.1, hr0 _ _ h.2⟩).modify p _ fun b hb => ⟨rfl, hr0 _ _ hyp⟩) (fun _ _ => .und)
                  refine ⟨_, h, Ex.skip (by rw [ho]) ?_ hs⟩
                  simp only [execOp, ho]
                  refine run_u ?_
                  rw [ex, em, hd']
                  simp only [Instr.mapUpdate, Sem.run_bind, run_underlying hd, Result.andThen_ok, MapKept.run_getObj_map hh, hck, hf, hkey, hks, MapKept.run_setObj_map _ hh, World.putObj]
              · exact h.elim
            · exact h.elim
          · exact h.elim
        · exact h.elim
      · exact h.elim
    · exact h.elim
  · exact h.elim
theorem ex_delete {cl : Call} (hT : TyOk P Γ) (ho : o.op = .call cl) (hcl : cl.callee = .builtin .delete) (hg : Good c L) (hρ : ∀ x, Rel c (ρ x) (a.eval x)) (h : vcE P Γ np o ρ L j k) : ∃ e, k e ∧ Ex P o a c L np e := by
  simp only [vcE, ho, hcl, frc_eq] at h
  have hnd : (match o.op with | .defer _ => true | _ => false) = false := by rw [ho]
  split at h
  · rename_i m x t tl hx0 ht0
    have hm := hρ m
    have hx := hρ x
    split at h
    · rename_i i hi
      obtain ⟨d, hd, hk⟩ := (hT _ _ hi).und
      split at h
      · rename_i kt e hik
        rw [hik] at hk
        simp only [TK.ok] at hk
        subst hk
        split at h
        · rename_i qk hqk
          obtain ⟨dk, hdk, hkk⟩ := (hT _ _ hqk).und
          split at h
          · rename_i kq hikq
            rw [hikq] at hkk
            simp only [TK.ok] at hkk
            subst hkk
            split at h
            · rename_i b kx n hp hn
              rw [hp] at hm
              rw [hn] at hx
              have ex := hx.int_inv
              obtain ⟨e', hμ, hnn, em⟩ := hm.mp_inv
              obtain ⟨e'', hμ', hB⟩ := hg.blk b (hg.dom b e' hμ)
              rw [hμ] at hμ'; cases hμ'
              split at h
              · rename_i kk es hL
                rw [hL] at hB
                split at h
                · rename_i hc
                  simp only [Bool.and_eq_true, decide_eq_true_eq] at hc
                  obtain ⟨rfl, rfl⟩ := hc
                  cases hB with
                  | map _ ms clock hh h2 =>
                  have hck := fun em => MapKept.run_checkKey (P := P) (w := c.w) (k := .int kq n) hdk rfl em 9999
                  have hat : cl.argTypes[0]? = some t := by rw [← Array.getElem?_toList, ht0]; rfl
                  have hrunE : ∀ {ob : Obj}, (Builtin.delete_ cl.argTypes o.type #[.map (some e'.b), .int kq n]).run P c.w = .ok (.tuple #[]) (c.w.putObj e'.b ob) → (execOp a.eval o).run P c.w = .ok (.value (.tuple #[])) (c.w.putObj e'.b ob) := fun {ob} hr => by
                    obtain ⟨cs, hb⟩ := run_bi (P := P) hcl ho c.w a.eval
                    rw [hb, two hx0]
                    simp only [builtin, List.map_toArray, List.map_cons, List.map_nil, ex, em]
                    exact run_v hr
                  rcases find_map kq n h2 0 with ⟨_, _, g3, g4⟩ | ⟨p, v, m', _, g2, _, _, _, g6, _, g8⟩
                  · have hf := MapKept.run_findKey (P := P) (w := c.w) hdk g4
                    obtain ⟨d, hd', hs⟩ := Stp.write (np := np) (rd := [b]) (x := .any) (v := .tuple #[]) hg (.map ms clock) hμ hnn (B := .map kq (mapDel es n)) rfl
                      (fun d hd hok hrel hr0 => by
                        refine .map hnn _ _ (by rw [hd]; exact World.putObj_heap_same (hg.lt ⟨b, e', hμ, hnn, rfl⟩)) ?_
                        rw [g3]
                        exact h2.imp fun _ _ _ h => ⟨h.1, hr0 _ _ h.2⟩) (fun _ _ => .any _)
                    refine ⟨_, h, Ex.value hnd (d := d) (v := .tuple #[]) (by rw [hd']; exact hrunE (by simp [Builtin.delete_, hat, run_underlying hd, MapKept.run_getObj_map hh, hck, hf, MapKept.run_setObj_map _ hh, World.putObj])) hs⟩
                  · have hf := MapKept.run_findKey (P := P) (w := c.w) hdk g8
                    obtain ⟨d, hd', hs⟩ := Stp.write (np := np) (rd := [b]) (x := .any) (v := .tuple #[]) hg (.map (ms.eraseIdxIfInBounds (0 + p)) clock) hμ hnn (B := .map kq (mapDel es n)) rfl
                      (fun d hd hok hrel hr0 => by
                        refine .map hnn _ _ (by rw [hd]; exact World.putObj_heap_same (hg.lt ⟨b, e', hμ, hnn, rfl⟩)) ?_
                        have hpl : p < ms.size := by
                          have := (List.getElem?_eq_some_iff.1 g2).1
                          simpa using this
                        rw [g6, Nat.zero_add]
                        simp only [Array.eraseIdxIfInBounds, hpl, dite_true, Array.toList_eraseIdx]
                        exact (h2.imp fun _ _ _ h => ⟨h.1, hr0 _ _ h.2⟩).erase p) (fun _ _ => .any _)
                    refine ⟨_, h, Ex.value hnd (d := d) (v := .tuple #[]) (by rw [hd']; exact hrunE (by simp only [Builtin.delete_, hat, Sem.run_bind, run_underlying hd, Result.andThen_ok, MapKept.run_getObj_map hh, hck, hf, MapKept.run_setObj_map _ hh, World.putObj, List.getElem?_toArray, List.getElem?_cons_zero, List.getElem?_cons_succ, Sem.run_pure])) hs⟩
                · exact h.elim
              · exact h.elim
            · exact h.elim
          · exact h.elim
        · exact h.elim
      · exact h.elim
    · exact h.elim
  · exact h.elim
end
end Go.Proofs.Ytcfbhojpemjjpaa
