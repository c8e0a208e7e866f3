/- An operation does what the walk says of it: append. -/
import Derived.Test.YtcfbhojpemjjpaaQ
set_option linter.unusedVariables false
set_option linter.unusedSimpArgs false
namespace Go.Proofs.Ytcfbhojpemjjpaa
open Go Go.RowKit

section
variable {P : Program} {Γ : Nat → Option TI} {o : Oper} {a : Act} {c : Cx} {L : Nat → Blk} {np j : Nat} {ρ : Operand → AV} {k : Eff → Prop}

theorem Stp.drew {e : Eff} {v : Value} {d : Cx} (hg : Good c L) (h : Stp ⟨c.w.drew, c.ok, c.μ, c.yl⟩ L np e v d) : Stp c L np e v d := by
  obtain ⟨_, h2, h3⟩ := hg.drew
  exact ⟨h2.trans h.fr, h.good, fun a v hr => h.tr a v (h3 a v hr), h.val, h.pin⟩
theorem run_append_none {w : World} {t ty e : Nat} {q : TI} (ht : P.underlying t = some (.slice e)) (hq : TyF P e q) (A B : Option Addr) (n cap cc : Nat) (hn : n ≤ cap) :
    (Builtin.append_ #[t, t] ty #[.slice A n cap, .slice B 0 cc]).run P w = .ok (.slice A n cap) w := by
  cases A <;> cases B <;> simp [Builtin.append_, run_underlying ht, run_sizeOf_of hq, Builtin.lenOf, hn, Builtin.firstCells, loadCells, loadCellsFrom, storeCells]
theorem run_grow {w : World} {t ty e : Nat} {it : TypeInfo} {z : Value} (ht : P.underlying t = some (.slice e)) (hi : P.info? e = some it) (hz : it.zero = some z) (A : Option Addr) (n : Nat) (olds : List Value) (hlo : olds.length = n * it.size)
    (holds : n = 0 ∨ ∃ b, A = some b ∧ ∀ j v, olds[j]? = some v → w.cell? (b.add j) = some v) (ad : Addr) (m cc : Nat) (news : List Value) (hl : news.length = m * it.size) (hnews : ∀ j v, news[j]? = some v → w.cell? (ad.add j) = some v)
    (hm : 0 < m) (hb : (n + m) * it.bytes ≤ 140737488355328) (hmax : n + m ≤ maxLen) :
    ∃ cap, n + m ≤ cap ∧ cap ≤ maxLen ∧ (Builtin.append_ #[t, t] ty #[.slice A n n, .slice (some ad) m cc]).run P w = .ok (.slice (some ⟨w.heap.size, 0, none⟩) (n + m) cap)
      (w.drew.alloc (.cells (olds.toArray ++ news.toArray ++ Builtin.zeroCells z.cells (cap - (n + m))) e)) := by
  have hmx := hmax
  simp only [maxLen] at hmx
  refine ⟨grownCap w (n + m) n e, grownCap_ge w _ _ e, grownCap_le_maxLen w _ _ e hmax, ?_⟩
  cases A with
  | some b =>
    have holds' : ∀ j v, olds[j]? = some v → w.cell? (b.add j) = some v := by
      rcases holds with rfl | ⟨b', hb', h⟩
      · intro j v hj
        rw [Nat.zero_mul] at hlo
        rw [List.eq_nil_of_length_eq_zero hlo] at hj
        simp at hj
      · cases hb'; exact h
    exact run_append_grow (P := P) w t ty e it z ht hi hz b n n olds hlo holds' ad m cc news hl hnews (by omega) (by omega) (growslice_fits (by omega) hb)
  | none =>
    obtain rfl : n = 0 := by rcases holds with h | ⟨b, hb, _⟩ <;> first | exact h | cases hb
    rw [Nat.zero_mul] at hlo
    obtain rfl := List.eq_nil_of_length_eq_zero hlo
    have := run_append_nil (P := P) w t ty e it z ht hi hz ad m cc news hl hnews hm (by omega) (by rw [Nat.zero_add] at hb; omega)
    simpa using this
/-- A new row, grown: its elements, and spare cells behind them. -/
theorem grow_stp {e : Nat} {q : TI} {z : Value} (hg : Good c L) (hnp : np ≤ j) (hj : (L j).alive = false) (hz : z.cells.size = q.sz) (h0 : 0 < q.sz) {n cap : Nat} {vs : List Value} {xs : List (List AV)} (h2 : F2 (R0 c.w c.ok) xs.flatten vs) (hxl : ∀ x ∈ xs, x.length = q.sz) (hn : n = xs.length) (hcap : n ≤ cap) (hmx : cap ≤ maxLen)
    (h1 : ∀ v ∈ vs, v.oneCell' = true) {cur : Array Value} (hcur : cur = vs.toArray ++ Builtin.zeroCells z.cells (cap - n)) (rd : List Nat) :
    ∃ d, d.w = c.w.drew.alloc (.cells cur e) ∧ Stp c L np { v := .rowf j, wr := [(j, .rows e q.sz xs)], rd := rd, al := 1 } (.slice (some ⟨c.w.heap.size, 0, none⟩) n cap) d := by
  have hvl : vs.length = n * q.sz := by rw [← h2.length, flatten_len hxl, hn]
  have hcs : cur.size = cap * q.sz := by
    rw [hcur, Array.size_append, size_zeroCells, hz, List.size_toArray, hvl, ← Nat.add_mul]
    congr 1
    omega
  obtain ⟨g1, _, _⟩ := hg.drew
  obtain ⟨d, hd, hs⟩ := Stp.alloc (np := np) (c := ⟨c.w.drew, c.ok, c.μ, c.yl⟩) (rd := rd) (x := .rowf j) (v := .slice (some ⟨c.w.heap.size, 0, none⟩) n cap) g1 hnp hj (.cells cur e (0, 0)) (e := ⟨c.w.heap.size, q.sz, cap, n, false⟩) (B := .rows e q.sz xs) rfl rfl rfl
    (fun d hd hrel hr0 => by
      refine .rows vs ⟨hvl, .inr ⟨c.w.heap.size, cap, cur, rfl, Nat.zero_le _, by rw [hd]; exact heap_alloc_new c.w.drew _, hcap, hmx, hcs, ?_⟩⟩ (h2.imp fun _ _ _ h => hr0 _ _ (R0.mono (w := c.w) (w' := c.w.drew) (fun _ h => h) (fun _ _ => rfl) h)) rfl hn hxl h0 h1
      rw [hcur, ← hvl]
      simp) (fun d hd => .rowf hd)
  exact ⟨d, hd, hs.drew hg⟩

theorem ex_append {cl : Call} (hT : TyOk P Γ) (hnp : np ≤ j) (ho : o.op = .call cl) (hcl : cl.callee = .builtin .append) (hg : Good c L) (hρ : ∀ x, Rel c (ρ x) (a.eval x)) (h : vcE P Γ np o ρ L j k) : ∃ e, k e ∧ Ex P o a c L np e := by
  simp only [vcE, ho, hcl, frc_eq] at h
  have hnd : (match o.op with | .defer _ => true | _ => false) = false := by rw [ho]
  split at h
  · rename_i s x t t' hx0 ht0
    split at h
    · rename_i i hi htt
      have htt : t = t' := of_decide_eq_true htt
      subst htt
      obtain ⟨d, hd, hk⟩ := (hT _ _ hi).und
      split at h
      · rename_i e hik
        rw [hik] at hk
        simp only [TK.ok] at hk
        subst hk
        split at h
        · rename_i q hq
          have hq := hT _ _ hq
          obtain ⟨it, z, hit, hs1, hs2, hz, hz2, hz1⟩ := z_rel (c := c) hq
          have hzl : z.cells.size = q.sz := by rw [← hq.zsz, hz2.length]; simp
          obtain ⟨ys, rd, h, A, cc, ex, hel⟩ := elems_sound hg (hρ x) h
          have hs := hρ s
          have hrunE : ∀ {v : Value} {w' : World}, (Builtin.append_ #[t, t] o.type #[a.eval s, a.eval x]).run P c.w = .ok v w' → (execOp a.eval o).run P c.w = .ok (.value v) w' := fun {v w'} hr => by
            obtain ⟨cs, hb⟩ := run_bi (P := P) hcl ho c.w a.eval
            rw [hb, two hx0, two ht0]
            simp only [builtin, List.map_toArray, List.map_cons, List.map_nil]
            exact run_v hr
          split at h
          · rename_i b hp
            rw [hp] at hs
            obtain ⟨e0, hμ, es⟩ := hs.rowf_inv
            obtain ⟨e0', hμ', hB⟩ := hg.blk b (hg.dom b e0 hμ)
            rw [hμ] at hμ'; cases hμ'
            split at h
            · rename_i ty sz xs hL
              rw [hL] at hB
              split at h
              · rename_i hcond
                simp only [Bool.and_eq_true] at hcond
                obtain ⟨⟨⟨hnb, hty⟩, _⟩, hsz⟩ := hcond
                have hnb := Nat.le_of_ble_eq_true hnb
                have hty := Nat.eq_of_beq_eq_true hty
                have hsz := Nat.eq_of_beq_eq_true hsz
                subst hty
                subst hsz
                obtain ⟨hys, ⟨hb0, hbm⟩, h⟩ := h
                have hB' := hB
                cases hB' with
                | rows vs hown h2 hesz hn hxl h0 h1 =>
                obtain ⟨news, hnw, hat⟩ := hel q.sz fun y hy => (hys y hy).1
                have hvl : vs.length = xs.length * q.sz := by rw [← h2.length, flatten_len hxl]
                have hnl : news.length = ys.length * q.sz := by rw [← hnw.length, flatten_len fun y hy => (hys y hy).1]
                have hone : ∀ u ∈ news, u.oneCell' = true := r0_ones hnw (by
                  rw [List.all_eq_true]
                  intro u hu
                  obtain ⟨y, hy, hu⟩ := List.mem_flatten.1 hu
                  exact List.all_eq_true.1 (hys y hy).2 u hu)
                have hmax : xs.length + ys.length ≤ maxLen := by
                  have : (xs.length + ys.length) * 1 ≤ (xs.length + ys.length) * q.by_ := Nat.mul_le_mul_left _ hb0
                  simp only [maxLen]
                  omega
                rcases hat with rfl | ⟨ad, rfl, hat⟩
                · have hrun : (Builtin.append_ #[t, t] o.type #[a.eval s, a.eval x]).run P c.w = .ok e0.val c.w := by
                    rw [es, ex]
                    cases hnn : e0.nil with
                    | true => rw [Ent.val_nil hnn]; exact run_append_none hd hq _ _ _ _ _ (Nat.le_refl _)
                    | false =>
                      obtain ⟨cur, vs', _, _, _, _, _, _, hc, _⟩ := rows_at hB hnn
                      rw [Ent.val_at hnn]
                      exact run_append_none hd hq _ _ _ _ _ hc
                  rw [List.append_nil] at h
                  refine ⟨_, h, Ex.value hnd (d := c) (v := e0.val) (hrunE hrun) ?_⟩
                  exact Stp.put hg hnb rfl (upd_self hμ).symm (fun hn' => .inr ⟨e0, hμ, hn', rfl⟩) rfl rfl rfl rfl rfl (Nat.le_refl _) (fun _ _ _ => rfl) (fun _ => hB) (.rowf hμ)
                · rcases Nat.eq_zero_or_pos ys.length with hy0 | hy0
                  · obtain rfl := List.eq_nil_of_length_eq_zero hy0
                    have hrun : (Builtin.append_ #[t, t] o.type #[a.eval s, a.eval x]).run P c.w = .ok e0.val c.w := by
                      rw [es, ex]
                      cases hnn : e0.nil with
                      | true => rw [Ent.val_nil hnn]; exact run_append_none hd hq _ _ _ _ _ (Nat.le_refl _)
                      | false =>
                        obtain ⟨cur, vs', _, _, _, _, _, _, hc, _⟩ := rows_at hB hnn
                        rw [Ent.val_at hnn]
                        exact run_append_none hd hq _ _ _ _ _ hc
                    rw [List.append_nil] at h
                    refine ⟨_, h, Ex.value hnd (d := c) (v := e0.val) (hrunE hrun) ?_⟩
                    exact Stp.put hg hnb rfl (upd_self hμ).symm (fun hn' => .inr ⟨e0, hμ, hn', rfl⟩) rfl rfl rfl rfl rfl (Nat.le_refl _) (fun _ _ _ => rfl) (fun _ => hB) (.rowf hμ)
                  · rw [hn] at hown
                    obtain ⟨v', w', hr, hown', hgr, hnil, hob⟩ := run_append_own_at (P := P) c.w 0 t o.type ty it z q.sz q.by_ hd hit hz hs1 hs2 hzl h0 e0.val xs.length vs hown ad ys.length cc news hnl hat hone hmax hbm (Nat.zero_le _)
                    have hne : v' ≠ .slice none 0 0 := fun hv' => by have := (hnil.1 hv').2; omega
                    have hown2 := hown'
                    obtain ⟨hcl', hown'⟩ := hown'
                    rcases hown' with ⟨hv', _⟩ | ⟨g, cap, cur, rfl, _, hh, hcap, hmx, hcs, htk⟩
                    · exact absurd hv' hne
                    · refine ⟨_, h, Ex.value hnd (d := ⟨w', c.ok, upd c.μ b (some ⟨g, q.sz, cap, xs.length + ys.length, false⟩), c.yl⟩) (v := .slice (some ⟨g, 0, none⟩) (xs.length + ys.length) cap) (hrunE (by rw [es, ex]; exact hr)) ?_⟩
                      have hblk : ∀ b', b' < c.w.heap.size → (∀ e, c.μ b = some e → e.nil = false → b' ≠ e.b) → w'.heap[b']? = c.w.heap[b']? := fun b' hb' hne' => by
                        refine hgr.block b' hb' ?_
                        cases hnn : e0.nil with
                        | true => rw [Ent.val_nil hnn]; simp [Value.ownBlock]
                        | false => rw [Ent.val_at hnn]; simp only [Value.ownBlock, ne_eq, Option.some.injEq]; exact hne' e0 hμ hnn
                      refine Stp.put (d := ⟨w', c.ok, upd c.μ b (some ⟨g, q.sz, cap, xs.length + ys.length, false⟩), c.yl⟩) hg hnb rfl rfl (fun _ => ?_) rfl rfl hgr.os hgr.tape hgr.output hgr.size hblk (fun hr0 => ?_) ?_
                      · rcases hob with hob | hob
                        · cases hnn : e0.nil with
                          | true => rw [Ent.val_nil hnn] at hob; simp [Value.ownBlock] at hob
                          | false =>
                            rw [Ent.val_at hnn] at hob
                            simp only [Value.ownBlock, Option.some.injEq] at hob
                            exact .inr ⟨e0, hμ, hnn, hob.symm⟩
                        · simp only [Value.ownBlock, Option.some.injEq] at hob
                          exact .inl (by rw [hob]; exact Nat.le_refl _)
                      · refine .rows (vs ++ news) hown2 ?_ rfl (by simp) (fun x hx => ?_) h0 (fun v hv => ?_)
                        · rw [List.flatten_append]
                          exact (h2.imp fun _ _ _ h => hr0 _ _ h).append (hnw.imp fun _ _ _ h => hr0 _ _ h)
                        · rcases List.mem_append.1 hx with hx | hx
                          · exact hxl x hx
                          · exact (hys x hx).1
                        · rcases List.mem_append.1 hv with hv | hv
                          · exact h1 v hv
                          · exact hone v hv
                      · exact .rowf (e := ⟨g, q.sz, cap, xs.length + ys.length, false⟩) (upd_same _ _ _)
              · exact h.elim
            · exact h.elim
          · rename_i hp
            rw [hp] at hs
            split at h
            · rename_i y ys
              split at h
              · rename_i hj hsz
                have h0 : 0 < q.sz := by simpa [Nat.blt_eq] using hsz
                obtain ⟨hys, ⟨hb0, hbm⟩, h⟩ := h
                obtain ⟨news, hnw, hat⟩ := hel q.sz fun y hy => (hys y hy).1
                have hnl : news.length = (y :: ys).length * q.sz := by rw [← hnw.length, flatten_len fun y hy => (hys y hy).1]
                have hone : ∀ u ∈ news, u.oneCell' = true := r0_ones hnw (by
                  rw [List.all_eq_true]
                  intro u hu
                  obtain ⟨y, hy, hu⟩ := List.mem_flatten.1 hu
                  exact List.all_eq_true.1 (hys y hy).2 u hu)
                have hmax : 0 + (y :: ys).length ≤ maxLen := by
                  have : (ys.length + 1) * 1 ≤ (ys.length + 1) * q.by_ := Nat.mul_le_mul_left _ hb0
                  simp only [maxLen, List.length_cons]
                  omega
                rcases hat with hat | ⟨ad, rfl, hat⟩
                · cases hat
                · obtain ⟨cap, hcap, hmx, hr⟩ := run_grow (P := P) (w := c.w) (ty := o.type) hd hit hz none 0 [] (by simp) (.inl rfl) ad (y :: ys).length cc news (by rw [hs1]; exact hnl) hat (by simp) (by rw [hs2, Nat.zero_add]; exact hbm) hmax
                  obtain ⟨d, hd', hst⟩ := grow_stp (e := e) (z := z) hg hnp hj hzl h0 (n := 0 + (y :: ys).length) (cap := cap) hnw (fun y hy => (hys y hy).1) (by simp) hcap hmx hone (cur := ([] : List Value).toArray ++ news.toArray ++ Builtin.zeroCells z.cells (cap - (0 + (y :: ys).length))) (by simp) (j :: rd)
                  refine ⟨_, h, Ex.value hnd (hrunE ?_) hst⟩
                  rw [hs.nilsl_inv, ex, hd']
                  exact hr
              · exact h.elim
            · exact h.elim
          · rename_i xs hp
            rw [hp] at hs
            split at h
            · rename_i y ys
              split at h
              · rename_i hj hsz
                have h0 : 0 < q.sz := by simpa [Nat.blt_eq] using hsz
                obtain ⟨hys, ⟨hb0, hbm⟩, h⟩ := h
                have hys' : ∀ z ∈ y :: ys, z.length = q.sz ∧ z.all oneC = true := fun z hz => hys z (List.mem_append.2 (.inr hz))
                have hxs' : ∀ z ∈ xs, z.length = q.sz ∧ z.all oneC = true := fun z hz => hys z (List.mem_append.2 (.inl hz))
                obtain ⟨news, hnw, hat⟩ := hel q.sz fun y hy => (hys' y hy).1
                have hnl : news.length = (y :: ys).length * q.sz := by rw [← hnw.length, flatten_len fun y hy => (hys' y hy).1]
                have hmax : xs.length + (y :: ys).length ≤ maxLen := by
                  have : (xs.length + (ys.length + 1)) * 1 ≤ (xs.length + (ys.length + 1)) * q.by_ := Nat.mul_le_mul_left _ hb0
                  simp only [maxLen, List.length_cons]
                  omega
                obtain ⟨hsl, A', es⟩ := hs.slc_inv
                obtain ⟨olds, how, hold⟩ : ∃ olds : List Value, F2 (R0 c.w c.ok) xs.flatten olds ∧ (xs.length = 0 ∨ ∃ b, A' = some b ∧ ∀ j v, olds[j]? = some v → c.w.cell? (b.add j) = some v) := by
                  obtain ⟨ys2, rd2, hK, A2, cc2, e2, hel2⟩ := elems_sound (K := fun ys rd => ys = xs) hg hs (by simp [elems])
                  subst hK
                  rw [es] at e2
                  cases e2
                  obtain ⟨olds, ho1, ho2⟩ := hel2 q.sz fun z hz => (hxs' z hz).1
                  exact ⟨olds, ho1, ho2.imp (fun h => by rw [h]; rfl) fun h => h⟩
                have hol : olds.length = xs.length * q.sz := by rw [← how.length, flatten_len fun y hy => (hxs' y hy).1]
                have hone : ∀ u ∈ olds ++ news, u.oneCell' = true := r0_ones (how.append hnw) (by
                  rw [← List.flatten_append, List.all_eq_true]
                  intro u hu
                  obtain ⟨y, hy, hu⟩ := List.mem_flatten.1 hu
                  exact List.all_eq_true.1 (hys y hy).2 u hu)
                rcases hat with hat | ⟨ad, rfl, hat⟩
                · cases hat
                · obtain ⟨cap, hcap, hmx, hr⟩ := run_grow (P := P) (w := c.w) (ty := o.type) hd hit hz A' xs.length olds (by rw [hs1]; exact hol) hold ad (y :: ys).length cc news (by rw [hs1]; exact hnl) hat (by simp) (by rw [hs2]; exact hbm) hmax
                  obtain ⟨d, hd', hst⟩ := grow_stp (e := e) (z := z) hg hnp hj hzl h0 (n := xs.length + (y :: ys).length) (cap := cap) (xs := xs ++ y :: ys) (vs := olds ++ news) (by rw [List.flatten_append]; exact how.append hnw) (fun y hy => (hys y hy).1) (by simp) hcap hmx hone (cur := olds.toArray ++ news.toArray ++ Builtin.zeroCells z.cells (cap - (xs.length + (y :: ys).length))) (by simp) (j :: rd)
                  refine ⟨_, h, Ex.value hnd (hrunE ?_) hst⟩
                  rw [es, ex, hd']
                  exact hr
              · exact h.elim
            · exact h.elim
          · exact h.elim
        · exact h.elim
      · exact h.elim
    · exact h.elim
  · exact h.elim
end
end Go.Proofs.Ytcfbhojpemjjpaa
