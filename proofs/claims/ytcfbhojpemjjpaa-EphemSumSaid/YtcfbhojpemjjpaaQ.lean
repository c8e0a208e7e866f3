/- An operation does what the walk says of it: slice literals, append. -/
import Derived.Test.YtcfbhojpemjjpaaO
set_option linter.unusedVariables false
set_option linter.unusedSimpArgs false
namespace Go.Proofs.Ytcfbhojpemjjpaa
open Go Go.RowKit

section
variable {P : Program} {Γ : Nat → Option TI} {o : Oper} {a : Act} {c : Cx} {L : Nat → Blk} {np j : Nat} {ρ : Operand → AV} {k : Eff → Prop}

theorem splice_all {α : Type} {y z : List α} (h : z.length = y.length) : splice y 0 z = z := by
  unfold splice
  simp [h]
theorem bldS_sound {z : List AV} {sz : Nat} (hzl : z.length = sz) (hρ : ∀ x, Rel c (ρ x) (a.eval x)) : ∀ (ps : List (Nat × Operand)) (xs : List (List AV)) (cells : Array Value) {k : List (List AV) → Prop},
    (∀ x ∈ xs, x.length = sz) → F2 (R0 c.w c.ok) xs.flatten cells.toList → (∀ v ∈ cells.toList, v.oneCell' = true) → bldS z ρ ps xs k →
    ∃ (xs' : List (List AV)) (cells' : Array Value), k xs' ∧ (∀ x ∈ xs', x.length = sz) ∧ xs'.length = xs.length ∧ F2 (R0 c.w c.ok) xs'.flatten cells'.toList ∧ (∀ v ∈ cells'.toList, v.oneCell' = true) ∧
      Instr.fill (fun i => some (i * sz, sz)) cells (ps.map fun p => (p.1, a.eval p.2)) = some cells'
  | [], xs, cells, k, hl, h2, h1, h => ⟨xs, cells, h, hl, rfl, h2, h1, rfl⟩
  | (f, x) :: ps, xs, cells, k, hl, h2, h1, h => by
    simp only [bldS, frc_eq, frcL_eq] at h
    split at h
    · rename_i ys hy
      split at h
      · rename_i hb
        simp only [Bool.and_eq_true] at hb
        obtain ⟨⟨hb1, hb2⟩, hb3⟩ := hb
        have hb1 := Nat.eq_of_beq_eq_true hb1
        rw [List.length_map] at hb1
        have hb3 : f < xs.length := by simpa [Nat.blt_eq] using hb3
        obtain ⟨g1, g2⟩ := cells_ne (hρ x) hy
        have hp := pures_rel g1 hb2
        have hlen : cells.toList.length = xs.length * sz := by rw [← h2.length, flatten_len hl]
        have hle : f * sz + sz ≤ xs.length * sz := by rw [← Nat.succ_mul]; exact Nat.mul_le_mul_right _ hb3
        have hfx : xs[f]? = some xs[f] := List.getElem?_eq_getElem hb3
        have hfl := hl _ (List.mem_of_getElem? hfx)
        have hset := flatten_set hl hfx 0 (ys.map nrm) (by simp [hb1, hzl, hfl])
        rw [splice_all (by simp [hb1, hzl, hfl]), Nat.add_zero] at hset
        have ih := bldS_sound hzl hρ ps (xs.set f (ys.map nrm)) (splice cells.toList (f * sz) (a.eval x).cells.toList).toArray (k := k) (fun x hx => by
          rcases List.mem_or_eq_of_mem_set hx with hx | rfl
          · exact hl x hx
          · simp [hb1, hzl]) (by rw [hset]; simpa using h2.splice hp _) (fun v hv => by
          simp only [splice] at hv
          rcases List.mem_append.1 hv with hv | hv
          · rcases List.mem_append.1 hv with hv | hv
            · exact h1 v (List.mem_of_mem_take hv)
            · exact r0_ones hp (pureC_all hb2) v hv
          · exact h1 v (List.mem_of_mem_drop hv)) h
        simp only [List.length_set] at ih
        simp only [List.map_cons]
        rw [fill_one (off := f * sz) (size := sz) rfl (by rw [g2, hb1, hzl]) (by simp at hlen; omega)]
        exact ih
      · exact h.elim
    · exact h.elim
theorem run_bs {w : World} {t e n : Nat} {parts : Array (Nat × Value)} {cells : Array Value} {ie : TypeInfo} {z : Value} (hu : P.underlying t = some (.slice e)) (hie : P.info? e = some ie) (hz : ie.zero = some z) (hsmall : n * ie.size ≤ 16777216)
    (h : Instr.fill (fun i => some (i * ie.size, ie.size)) (madeCells z.cells (n * ie.size)) parts.toList = some cells) : (Instr.buildSlice t n parts).run P w = .ok (.slice (some ⟨w.heap.size, 0, none⟩) n n) (w.alloc (.cells cells e)) := by
  have hs : ¬ n * ie.size > 2 ^ 24 := by simp only [show (2 : Nat) ^ 24 = 16777216 from rfl]; omega
  by_cases h0 : n * ie.size = 0
  · rw [h0] at h
    have hr0 : Array.range 0 = #[] := rfl
    have h' : Instr.fill (fun i => some (i * ie.size, ie.size)) #[] parts.toList = some cells := by
      rw [← h]
      simp [madeCells, hr0]
    simp [Instr.buildSlice, run_underlying hu, sizeOf, typeInfo, zeroValue, hie, hz, h0, hr0, h', newRow]
  · simp only [madeCells] at h
    simp [Instr.buildSlice, run_underlying hu, sizeOf, typeInfo, zeroValue, hie, hz, hs, h0, h, newRow]
theorem ex_buildSlice {t n : Nat} {ps : Array (Nat × Operand)} (hT : TyOk P Γ) (hnp : np ≤ j) (ho : o.op = .buildSlice t n ps) (hg : Good c L) (hρ : ∀ x, Rel c (ρ x) (a.eval x)) (h : vcE P Γ np o ρ L j k) : ∃ e, k e ∧ Ex P o a c L np e := by
  simp only [vcE, ho, frc_eq, frcL_eq] at h
  split at h
  · rename_i i hi
    obtain ⟨d, hd, hk⟩ := (hT _ _ hi).und
    split at h
    · rename_i e hik
      rw [hik] at hk
      simp only [TK.ok] at hk
      subst hk
      split at h
      · rename_i q hq
        have hq := hT _ _ hq
        obtain ⟨it, z, hit, hs1, hs2, hz, hz2, hz1⟩ := z_rel (c := c) hq
        have hzl : z.cells.size = q.sz := by rw [← hq.zsz, hz2.length]; simp
        by_cases hsz : 0 < q.sz
        · have hmade : (madeCells z.cells (n * it.size)).toList = (List.replicate n z.cells.toList).flatten := madeCells_list _ _ _ (by rw [hs1, hzl]) (by omega)
          obtain ⟨xs', cells', hk, hl', hlen, h2, h1, hf⟩ := bldS_sound (a := a) (c := c) (sz := q.sz) hq.zsz hρ ps.toList (List.replicate n (q.z.map nrm)) (madeCells z.cells (n * it.size)) (fun x hx => by rw [List.eq_of_mem_replicate hx, List.length_map]; exact hq.zsz)
            (by rw [hmade]; exact (nrm_r0s hz2).flatten n) (fun v hv => by
              rw [hmade] at hv
              obtain ⟨l, hl, hv⟩ := List.mem_flatten.1 hv
              rw [List.eq_of_mem_replicate hl] at hv
              exact hz1 v hv) h
          simp only [List.length_replicate] at hlen
          split at hk
          · rename_i hj hpc _ hsm
            have hsm := Nat.le_of_ble_eq_true hsm
            have hn : n ≤ maxLen := by
              have : n * 1 ≤ n * q.sz := Nat.mul_le_mul_left _ hsz
              simp only [maxLen]
              omega
            rw [← hs1] at hf
            have hrun := run_bs (P := P) (w := c.w) (parts := ps.map fun (i, x) => (i, a.eval x)) hd hit hz (by rw [hs1]; exact hsm) (by rw [parts_list]; exact hf)
            obtain ⟨d', hd', hs⟩ := Stp.alloc (np := np) (rd := [j]) (x := .rowf j) (v := .slice (some ⟨c.w.heap.size, 0, none⟩) n n) hg hnp hj (.cells cells' e (0, 0)) (e := ⟨c.w.heap.size, q.sz, n, n, false⟩) (B := .rows e q.sz xs') rfl rfl rfl
              (fun d hd hrel hr0 => rows_new (w := c.w) (by rw [hd]) (by rw [hlen]) (h2.imp fun _ _ _ h => hr0 _ _ h) hl' hsz (by rw [hlen]; exact hn) h1) (fun d hd => .rowf hd)
            refine ⟨_, hk, Ex.value (by rw [ho]) (v := .slice (some ⟨c.w.heap.size, 0, none⟩) n n) ?_ hs⟩
            simp only [execOp, ho]
            refine run_v ?_
            rw [hd']
            exact hrun
          · exact hk.elim
        · exfalso
          have hno : Nat.blt 0 q.sz = false := by
            cases hb : Nat.blt 0 q.sz with
            | false => rfl
            | true => exact absurd (by simpa [Nat.blt_eq] using hb) hsz
          have key : ∀ (ps : List (Nat × Operand)) (xs : List (List AV)), ¬ bldS q.z ρ ps xs fun xs => match (L j).alive, (q.z.map nrm).all AV.pureC, Nat.blt 0 q.sz, Nat.ble (n * q.sz) 16777216 with
              | false, true, true, true => k { v := .rowf j, wr := [(j, .rows e q.sz xs)], rd := [j], al := 1 }
              | _, _, _, _ => False := by
            intro ps
            induction ps with
            | nil =>
              intro xs h
              simp only [bldS, hno] at h
              split at h <;> simp_all
            | cons p ps ih =>
              intro xs h
              obtain ⟨f, x⟩ := p
              simp only [bldS, frc_eq, frcL_eq] at h
              split at h
              · split at h
                · exact ih _ h
                · exact h
              · exact h
          exact key _ _ h
      · exact h.elim
    · exact h.elim
  · exact h.elim

/-- The elements that are appended. -/
theorem elems_sound (hg : Good c L) {x : AV} {v : Value} (hx : Rel c x v) {K : List (List AV) → List Nat → Prop} (h : elems L x K) : ∃ (ys : List (List AV)) (rd : List Nat), K ys rd ∧ ∃ A cc, v = .slice A ys.length cc ∧
    ∀ sz, (∀ y ∈ ys, y.length = sz) → ∃ news : List Value, F2 (R0 c.w c.ok) ys.flatten news ∧ (ys = [] ∨ ∃ ad, A = some ad ∧ ∀ j u, news[j]? = some u → c.w.cell? (ad.add j) = some u) := by
  have sl : ∀ {xs : List (List AV)}, SlAt c xs v → ∃ A cc, v = .slice A xs.length cc ∧
      ∀ sz, (∀ y ∈ xs, y.length = sz) → ∃ news : List Value, F2 (R0 c.w c.ok) xs.flatten news ∧ (xs = [] ∨ ∃ ad, A = some ad ∧ ∀ j u, news[j]? = some u → c.w.cell? (ad.add j) = some u) := fun {xs} hs => by
    obtain ⟨A, cc, hv, hcc, hat⟩ := hs.at_
    refine ⟨A, cc, hv, fun sz hz => ?_⟩
    rcases Nat.eq_zero_or_pos xs.length with h0 | h0
    · have := List.eq_nil_of_length_eq_zero h0
      subst this
      exact ⟨[], .nil, .inl rfl⟩
    · obtain ⟨b, off, sz', us, rfl, hb, hz', h1, h2⟩ := hat h0
      have hl := flatten_len hz'
      refine ⟨(List.range (xs.length * sz')).map us, F2.of_get (by rw [hl]; simp) fun i av u ha hu => ?_, .inr ⟨_, rfl, fun q u hu => ?_⟩⟩
      · obtain ⟨q, hq, rfl⟩ := get_map hu
        obtain ⟨hlt, he⟩ := List.getElem?_eq_some_iff.1 hq
        simp at he
        subst he
        exact h2 _ _ ha
      · obtain ⟨q', hq, rfl⟩ := get_map hu
        obtain ⟨hlt, he⟩ := List.getElem?_eq_some_iff.1 hq
        simp at he hlt
        subst he
        rw [add_at]
        exact h1 _ hlt
  unfold elems at h
  split at h
  · refine ⟨[], [], h, none, 0, hx.nilsl_inv, fun sz _ => ⟨[], .nil, .inl rfl⟩⟩
  · exact ⟨_, _, h, sl hx.sl_inv⟩
  · exact ⟨_, _, h, sl hx.slc_inv.1⟩
  · rename_i b
    obtain ⟨e, hμ, rfl⟩ := hx.rowf_inv
    obtain ⟨e', hμ', hB⟩ := hg.blk b (hg.dom b e hμ)
    rw [hμ] at hμ'; cases hμ'
    split at h
    · rename_i ty s xs hL
      rw [hL] at hB
      refine ⟨_, _, h, ?_⟩
      cases hn : e.nil with
      | true =>
        have := rows_nil hB hn
        subst this
        exact ⟨none, 0, Ent.val_nil hn, fun sz _ => ⟨[], .nil, .inl rfl⟩⟩
      | false =>
        obtain ⟨cur, vs, hh, h2, hs, hn', hz, h0, hc, hm, hcs', ht, h4⟩ := rows_at hB hn
        refine ⟨some ⟨e.b, 0, none⟩, e.cap, by rw [Ent.val_at hn, hn'], fun sz _ => ⟨vs, h2, .inr ⟨_, rfl, fun q u hu => ?_⟩⟩⟩
        rw [add_at, Nat.zero_add, cell_of hh]
        rw [← ht, List.getElem?_take] at hu
        split at hu
        · simpa using hu
        · cases hu
    · exact h.elim
  · exact h.elim
theorem two_ {α : Type} {x : Array α} {p q : α} (h : x.toList = [p, q]) : x = #[p, q] := by cases x; simp_all
end
end Go.Proofs.Ytcfbhojpemjjpaa
