/- An operation does what the walk says of it: stores, slices that are made. -/
import Derived.Test.YtcfbhojpemjjpaaN
set_option linter.unusedVariables false
set_option linter.unusedSimpArgs false
namespace Go.Proofs.Ytcfbhojpemjjpaa
open Go Go.RowKit

section
variable {P : Program} {Γ : Nat → Option TI} {o : Oper} {a : Act} {c : Cx} {L : Nat → Blk} {np j : Nat} {ρ : Operand → AV} {k : Eff → Prop}

theorem splice_get {α : Type} (l : List α) (o : Nat) (z : List α) (i : Nat) (h : o + z.length ≤ l.length) : (splice l o z)[i]? = if i < o then l[i]? else if i < o + z.length then z[i - o]? else l[i]? := by
  unfold splice
  by_cases h1 : i < o
  · rw [if_pos h1, List.append_assoc, List.getElem?_append_left (by rw [List.length_take]; omega), List.getElem?_take, if_pos h1]
  · rw [if_neg h1]
    by_cases h2 : i < o + z.length
    · rw [if_pos h2, List.append_assoc, List.getElem?_append_right (by rw [List.length_take]; omega), List.getElem?_append_left (by rw [List.length_take]; omega), List.length_take]
      congr 1
      omega
    · rw [if_neg h2, List.getElem?_append_right (by rw [List.length_append, List.length_take]; omega), List.getElem?_drop, List.length_append, List.length_take]
      congr 1
      omega
theorem splice_take {α : Type} (l : List α) (o m : Nat) (z : List α) (h : o + z.length ≤ m) (hm : m ≤ l.length) : (splice l o z).take m = splice (l.take m) o z := by
  apply List.ext_getElem?
  intro i
  rw [List.getElem?_take, splice_get _ _ _ _ (by omega), splice_get _ _ _ _ (by rw [List.length_take]; omega)]
  by_cases h1 : i < m
  · simp [h1, List.getElem?_take]
  · rw [if_neg h1, if_neg (by omega), if_neg (by omega), List.getElem?_take, if_neg h1]
theorem flatten_set {α : Type} {sz : Nat} {xs : List (List α)} (h : ∀ x ∈ xs, x.length = sz) {k : Nat} {y : List α} (hk : xs[k]? = some y) (q : Nat) (z : List α) (hq : q + z.length ≤ y.length) :
    (xs.set k (splice y q z)).flatten = splice xs.flatten (k * sz + q) z := by
  have hy := h y (List.mem_of_getElem? hk)
  have hkl : k < xs.length := (List.getElem?_eq_some_iff.1 hk).1
  have hfl := flatten_len h
  have hkk : k * sz + sz ≤ xs.length * sz := by rw [← Nat.succ_mul]; exact Nat.mul_le_mul_right _ hkl
  have h' : ∀ x ∈ xs.set k (splice y q z), x.length = sz := fun x hx => by
    rcases List.mem_or_eq_of_mem_set hx with hx | rfl
    · exact h x hx
    · rw [splice_length _ _ _ hq, hy]
  have hfl' := flatten_len h'
  rw [List.length_set] at hfl'
  have hsp : (splice xs.flatten (k * sz + q) z).length = xs.length * sz := by rw [splice_length _ _ _ (by rw [hfl]; omega), hfl]
  rcases Nat.eq_zero_or_pos sz with h0 | h0
  · subst h0
    rw [List.eq_nil_of_length_eq_zero (by rw [hfl']; simp : (xs.set k (splice y q z)).flatten.length = 0), List.eq_nil_of_length_eq_zero (by rw [hsp]; simp : (splice xs.flatten (k * 0 + q) z).length = 0)]
  apply List.ext_getElem?
  intro i
  by_cases hi : i < xs.length * sz
  · have hd := Nat.div_add_mod i sz
    have hm := Nat.mod_lt i h0
    rw [Nat.mul_comm] at hd
    have hil : i / sz < xs.length := (Nat.div_lt_iff_lt_mul h0).2 hi
    have hx : xs[i / sz]? = some xs[i / sz] := List.getElem?_eq_getElem hil
    rw [splice_get _ _ _ _ (by rw [hfl]; omega)]
    by_cases hik : i / sz = k
    · rw [hik] at hd
      have e1 : (xs.set k (splice y q z))[k]? = some (splice y q z) := by simp [hkl]
      have g1 := flatten_get h' e1 hm
      have g2 := flatten_get h hk hm
      rw [hd] at g1 g2
      rw [g1, g2, splice_get _ _ _ _ hq]
      generalize i % sz = r at *
      generalize k * sz = ks at *
      by_cases c1 : r < q
      · have d1 : i < ks + q := by omega
        rw [if_pos c1, if_pos d1]
      · have d1 : ¬ i < ks + q := by omega
        rw [if_neg c1, if_neg d1]
        by_cases c2 : r < q + z.length
        · have d2 : i < ks + q + z.length := by omega
          rw [if_pos c2, if_pos d2]
          congr 1
          omega
        · have d2 : ¬ i < ks + q + z.length := by omega
          rw [if_neg c2, if_neg d2]
    · have e1 : (xs.set k (splice y q z))[i / sz]? = some xs[i / sz] := by rw [List.getElem?_set_ne (by omega)]; exact hx
      have g1 := flatten_get h' e1 hm
      have g2 := flatten_get h hx hm
      rw [hd] at g1 g2
      rw [g1, g2]
      by_cases c1 : i / sz < k
      · have : i / sz * sz + sz ≤ k * sz := by rw [← Nat.succ_mul]; exact Nat.mul_le_mul_right _ c1
        rw [if_pos (by omega)]
      · have : k * sz + sz ≤ i / sz * sz := by rw [← Nat.succ_mul]; exact Nat.mul_le_mul_right _ (by omega)
        rw [if_neg (by omega), if_neg (by omega)]
  · rw [List.getElem?_eq_none (by omega), List.getElem?_eq_none (by omega)]

theorem ex_store {t : Nat} {x y : Operand} (hT : TyOk P Γ) (ho : o.op = .store t x y) (hg : Good c L) (hρ : ∀ x, Rel c (ρ x) (a.eval x)) (h : vcE P Γ np o ρ L j k) : ∃ e, k e ∧ Ex P o a c L np e := by
  simp only [vcE, ho, frc_eq, frcL_eq] at h
  have hx := hρ x
  split at h
  · rename_i i hi
    have hi := hT _ _ hi
    split at h
    · rename_i cs hcs
      obtain ⟨h2, hsz⟩ := cells_ne (hρ y) hcs
      split at h
      · rename_i hb
        simp only [Bool.and_eq_true] at hb
        obtain ⟨hlen, hone⟩ := hb
        have hlen := Nat.eq_of_beq_eq_true hlen
        have h1 := ones_rel h2 hone
        have hcl : (a.eval y).cells.toList.length = cs.length := by simpa using hsz
        have hrun : ∀ {b off : Nat} {cur : Array Value} {ty : TypeId}, a.eval x = .pointer (some ⟨b, off, none⟩) → c.w.heap[b]? = some (.cells cur ty (0, 0)) → off + cs.length ≤ cur.size →
            (execOp a.eval o).run P c.w = .ok .skip (c.w.putObj b (.cells (splice cur.toList off (a.eval y).cells.toList).toArray ty (0, 0))) := fun {b off cur ty} ex hh hle => by
          have hst := run_storeCells (P := P) (a.eval y).cells.toList 0 c.w b off cur ty hh (by rw [hcl]; omega) h1
          simp only [execOp, ho]
          refine run_u ?_
          rw [ex]
          simp only [Nat.add_zero] at hst
          simp [Instr.storeAt, Instr.sureAddr, storeVar, run_sizeOf_of hi, hsz, hlen, hst]
        split at h
        · rename_i b kk q hp
          rw [hp] at hx
          obtain ⟨e, hμ, hn, ex⟩ := hx.ptr_inv
          obtain ⟨e', hμ', hB⟩ := hg.blk b (hg.dom b e hμ)
          rw [hμ] at hμ'; cases hμ'
          split at h
          · rename_i ty ys hL
            rw [hL] at hB
            split at h
            · rename_i hle
              have hle := Nat.le_of_ble_eq_true hle
              cases hB with
              | box vs _ hh h3 =>
                have hl3 := h3.length
                obtain ⟨d, hd, hs⟩ := Stp.write (np := np) (rd := [b]) (x := .und) (v := undef) hg (.cells (splice vs q (a.eval y).cells.toList).toArray ty (0, 0)) hμ hn (B := .box ty (splice ys q cs)) rfl
                  (fun d hd hok hrel hr0 => by
                    refine .box (splice vs q (a.eval y).cells.toList) hn (by rw [hd]; exact World.putObj_heap_same (hg.lt ⟨b, e, hμ, hn, rfl⟩)) ?_
                    exact (h3.imp fun _ _ _ h => hrel _ _ h).splice (h2.imp fun _ _ _ h => hrel _ _ h) q) (fun _ _ => .und)
                refine ⟨_, h, Ex.skip (by rw [ho]) ?_ hs⟩
                rw [hd]
                have := hrun (off := q) (by rw [ex]; simp) hh (by simp; omega)
                simpa using this
            · exact h.elim
          · rename_i ty sz xs hL
            rw [hL] at hB
            obtain ⟨y0, hy0, h⟩ := h
            split at h
            · rename_i hpc
              simp only [Bool.and_eq_true] at hpc
              have hle := Nat.le_of_ble_eq_true hpc.2
              have hp2 := pures_rel h2 hpc.1
              obtain ⟨cur, vs, hh, h3, hs, hn', hz, h0, hc, hm, hcs', ht, h4⟩ := rows_at hB hn
              have hyl := hz y0 (List.mem_of_getElem? hy0)
              have hkl : kk < xs.length := (List.getElem?_eq_some_iff.1 hy0).1
              have hks : kk * sz + sz ≤ e.n * sz := by rw [← Nat.succ_mul]; exact Nat.mul_le_mul_right _ (by omega)
              have hns : e.n * sz ≤ e.cap * sz := Nat.mul_le_mul_right _ hc
              have hfl := flatten_set hz hy0 q (cs.map nrm) (by simpa using hle)
              have hvl : vs.length = xs.length * sz := by rw [← h3.length, flatten_len hz]
              obtain ⟨d, hd, hs'⟩ := Stp.write (np := np) (rd := [b]) (x := .und) (v := undef) hg (.cells (splice cur.toList (kk * sz + q) (a.eval y).cells.toList).toArray ty (0, 0)) hμ hn (B := .rows ty sz (xs.set kk (splice y0 q (cs.map nrm)))) rfl
                (fun d hd hok hrel hr0 => by
                  refine .rows (splice vs (kk * sz + q) (a.eval y).cells.toList) ⟨?_, .inr ⟨e.b, e.cap, _, Ent.val_at hn, Nat.zero_le _, by rw [hd]; exact World.putObj_heap_same (hg.lt ⟨b, e, hμ, hn, rfl⟩), hc, hm, ?_, ?_⟩⟩ ?_ hs (by simpa using hn') (fun x hx => ?_) h0 (fun v hv => ?_)
                  · rw [splice_length _ _ _ (by rw [hvl, hcl]; rw [hn'] at hks; omega), hvl, hn']
                  · rw [← hcs', List.size_toArray, splice_length _ _ _ (by simp; omega)]
                    simp
                  · rw [List.toList_toArray, splice_take _ _ _ _ (by omega) (by simp; omega), ht]
                  · rw [hfl]
                    exact (h3.imp fun _ _ _ h => hr0 _ _ h).splice (hp2.imp fun _ _ _ h => hr0 _ _ h) _
                  · rcases List.mem_or_eq_of_mem_set hx with hx | rfl
                    · exact hz x hx
                    · rw [splice_length _ _ _ (by simpa using hle), hyl]
                  · unfold splice at hv
                    rcases List.mem_append.1 hv with hv | hv
                    · rcases List.mem_append.1 hv with hv | hv
                      · exact h4 v (List.mem_of_mem_take hv)
                      · exact h1 v hv
                    · exact h4 v (List.mem_of_mem_drop hv)) (fun _ _ => .und)
              refine ⟨_, h, Ex.skip (by rw [ho]) ?_ hs'⟩
              rw [hd]
              exact hrun (off := kk * sz + q) (by rw [ex, hs]) hh (by omega)
            · exact h.elim
          · exact h.elim
        · exact h.elim
      · exact h.elim
    · exact h.elim
  · exact h.elim

theorem madeCells_list (z : Array Value) (m sz : Nat) (hz : z.size = sz) (h0 : 0 < sz) : (madeCells z (m * sz)).toList = (List.replicate m z.toList).flatten := by
  have hz' : ∀ x ∈ List.replicate m z.toList, x.length = sz := fun x hx => by rw [List.eq_of_mem_replicate hx]; simpa using hz
  have hl : (List.replicate m z.toList).flatten.length = m * sz := by rw [flatten_len hz']; simp
  apply List.ext_getElem?
  intro i
  by_cases hi : i < m * sz
  · have hd := Nat.div_add_mod i sz
    have hm := Nat.mod_lt i h0
    rw [Nat.mul_comm] at hd
    have hil : i / sz < m := (Nat.div_lt_iff_lt_mul h0).2 hi
    have e1 : (List.replicate m z.toList)[i / sz]? = some z.toList := by simp [List.getElem?_replicate, hil]
    have := flatten_get hz' e1 hm
    rw [hd] at this
    rw [this]
    simp [madeCells, hi, hz]
    rw [Array.getElem?_eq_getElem (by omega)]
    exact (getElem!_pos z (i % sz) (by omega)).symm ▸ rfl
  · rw [List.getElem?_eq_none (by simp [madeCells]; omega), List.getElem?_eq_none (by omega)]
theorem F2.flatten {α β : Type} {R : α → β → Prop} {l : List α} {m : List β} (h : F2 R l m) : ∀ n : Nat, F2 R (List.replicate n l).flatten (List.replicate n m).flatten
  | 0 => .nil
  | n + 1 => by
    simp only [List.replicate_succ, List.flatten_cons]
    exact h.append (F2.flatten h n)
theorem nrm_r0s {w : World} {ok : Nat → Prop} {l : List AV} {vs : List Value} (h : F2 (R0 w ok) l vs) : F2 (R0 w ok) (l.map nrm) vs := by
  induction h with
  | nil => exact .nil
  | cons hr _ ih => exact .cons (nrm_r0 hr) ih
/-- A row that lies in a block of its own, as many cells as it has. -/
theorem rows_new {d : Cx} {w : World} {ty sz : Nat} {xs : List (List AV)} {cur : Array Value} {e : Ent} (hd : d.w = w.alloc (.cells cur ty (0, 0))) (he : e = ⟨w.heap.size, sz, xs.length, xs.length, false⟩) (h2 : F2 (R0 d.w d.ok) xs.flatten cur.toList) (hz : ∀ x ∈ xs, x.length = sz) (h0 : 0 < sz) (hm : xs.length ≤ maxLen)
    (h1 : ∀ v ∈ cur.toList, v.oneCell' = true) : BlkRel d (.rows ty sz xs) e := by
  subst he
  have hl : cur.toList.length = xs.length * sz := by rw [← h2.length, flatten_len hz]
  refine .rows cur.toList ⟨hl, .inr ⟨w.heap.size, xs.length, cur, rfl, Nat.zero_le _, by rw [hd]; exact heap_alloc_new _ _, Nat.le_refl _, hm, by simpa using hl, ?_⟩⟩ h2 rfl rfl hz h0 h1
  rw [← hl]
  exact List.take_length
theorem ex_makeSlice {t : Nat} {x y : Operand} (hT : TyOk P Γ) (hnp : np ≤ j) (ho : o.op = .makeSlice t x y) (hg : Good c L) (hρ : ∀ x, Rel c (ρ x) (a.eval x)) (h : vcE P Γ np o ρ L j k) : ∃ e, k e ∧ Ex P o a c L np e := by
  simp only [vcE, ho, frc_eq, frcL_eq] at h
  have hx := hρ x
  have hy := hρ y
  split at h
  · rename_i i hi
    obtain ⟨d, hd, hk⟩ := (hT _ _ hi).und
    split at h
    · rename_i e hik
      rw [hik] at hk
      simp only [TK.ok] at hk
      subst hk
      split at h
      · rename_i q hq
        have hq := hT _ _ hq
        split at h
        · rename_i n n' hp hp'
          rw [hp] at hx
          rw [hp'] at hy
          have ex := hx.int_inv
          have ey := hy.int_inv
          obtain ⟨rfl, m, rfl, ⟨hb0, hbm⟩, h⟩ := h
          split at h
          · rename_i hj hpc hsz
            have hsz : 0 < q.sz := by simpa [Nat.blt_eq] using hsz
            obtain ⟨it, z, hit, hs1, hs2, hz, hz2, hz1⟩ := z_rel (c := c) hq
            have hm : m ≤ maxLen := by
              have : m * 1 ≤ m * q.by_ := Nat.mul_le_mul_left _ hb0
              simp only [maxLen]
              omega
            have hzl : z.cells.size = q.sz := by rw [← hq.zsz, hz2.length]; simp
            have hb48 : ((q.by_ * m : Nat) : Int) ≤ 281474976710656 := by rw [Nat.mul_comm]; omega
            rw [Int.natCast_mul] at hb48
            have hrun := run_make (P := P) c.w t e it z hd hit hz .i64 .i64 m m (by omega) (Int.le_refl _) (by rw [hs2]; exact hb48) (by simp only [maxLen] at hm; omega)
            simp only [Int.toNat_natCast] at hrun
            have hmade : (madeCells z.cells (m * it.size)).toList = (List.replicate m z.cells.toList).flatten := madeCells_list _ _ _ (by rw [hs1, hzl]) (by omega)
            obtain ⟨d', hd', hs⟩ := Stp.alloc (np := np) (rd := [j]) (x := .rowf j) (v := .slice (some ⟨c.w.heap.size, 0, none⟩) m m) hg hnp hj (.cells (madeCells z.cells (m * it.size)) e (0, 0)) (e := ⟨c.w.heap.size, q.sz, m, m, false⟩) (B := .rows e q.sz (List.replicate m (q.z.map nrm))) rfl rfl rfl
              (fun d hd hrel hr0 => by
                refine rows_new (w := c.w) (by rw [hd]) (by simp) ?_ (fun x hx => by rw [List.eq_of_mem_replicate hx, List.length_map]; exact hq.zsz) hsz (by simpa using hm) (fun v hv => ?_)
                · rw [hmade]
                  exact (nrm_r0s (hz2.imp fun _ _ _ h => hr0 _ _ h)).flatten m
                · rw [hmade] at hv
                  obtain ⟨l, hl, hv⟩ := List.mem_flatten.1 hv
                  rw [List.eq_of_mem_replicate hl] at hv
                  exact hz1 v hv) (fun d hd => .rowf hd)
            refine ⟨_, h, Ex.value (by rw [ho]) (v := .slice (some ⟨c.w.heap.size, 0, none⟩) m m) ?_ hs⟩
            simp only [execOp, ho]
            refine run_v ?_
            rw [ex, ey, hd']
            exact hrun
          · exact h.elim
        · exact h.elim
      · exact h.elim
    · exact h.elim
  · exact h.elim
end
end Go.Proofs.Ytcfbhojpemjjpaa
