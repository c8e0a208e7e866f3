/- An operation does what the walk says of it: parts of slices, structs and arrays that are built, lengths. -/
import Derived.Test.YtcfbhojpemjjpaaK
set_option linter.unusedVariables false
set_option linter.unusedSimpArgs false
namespace Go.Proofs.Ytcfbhojpemjjpaa
open Go Go.RowKit

section
variable {P : Program} {Γ : Nat → Option TI} {o : Oper} {a : Act} {c : Cx} {L : Nat → Blk} {np j : Nat} {ρ : Operand → AV} {k : Eff → Prop}

theorem run_bound {kk : IntKind} {m y : Nat} (h : m ≤ y) (code : BoundsCode) (w : World) : (Instr.sliceBound (.int kk (m : Int)) y code).run P w = .ok m w := by
  simp [Instr.sliceBound, asIntOf, h]
theorem cut_run {lo hi : Option Operand} {l cap : Nat} {K : Nat → Nat → Prop} (hρ : ∀ x, Rel c (ρ x) (a.eval x)) (hlc : l ≤ cap) (h : cut (lo.map ρ) (hi.map ρ) l K) :
    ∃ x y, x ≤ y ∧ y ≤ l ∧ K x y ∧ (∀ w, (Instr.sliceBounds true l cap (lo.map a.eval) (hi.map a.eval) none).run P w = .ok (x, y, cap) w) ∧
      ∀ (u : Value) (kk : IntKind) (n : Int), (∃ k', hi.map ρ = some (.int k' n)) → u = .int kk n → ∀ w, (Instr.sliceBounds true l cap (lo.map a.eval) (hi.map a.eval) (some u)).run P w = .ok (x, y, y) w := by
  unfold cut at h
  have key : ∀ (z : Option Operand) {k' : IntKind} {n : Int}, z.map ρ = some (.int k' n) → z.map a.eval = some (.int k' n) := fun z k' n hz => by
    obtain ⟨x, rfl, hx⟩ := Option.map_eq_some_iff.1 hz
    have := hρ x
    rw [hx] at this
    simp [this.int_inv]
  have none' : ∀ (z : Option Operand), z.map ρ = none → z.map a.eval = none := fun z hz => by
    cases z with
    | none => rfl
    | some _ => simp at hz
  split at h
  · rename_i h1 h2
    refine ⟨0, l, by omega, by omega, h, fun w => ?_, fun u kk n hn => by obtain ⟨k', hk⟩ := hn; rw [h2] at hk; cases hk⟩
    simp [Instr.sliceBounds, none' _ h1, none' _ h2]
  · rename_i kk hh h1 h2
    obtain ⟨b, rfl, hb, h⟩ := h
    refine ⟨0, b, by omega, hb, h, fun w => ?_, fun u k2 n hn hu w => ?_⟩
    · simp [Instr.sliceBounds, none' _ h1, key _ h2, run_bound (show b ≤ cap by omega)]
    · obtain ⟨k', hk⟩ := hn
      rw [h2] at hk
      cases hk
      subst hu
      simp [Instr.sliceBounds, none' _ h1, key _ h2, run_bound (show b ≤ cap by omega), run_bound (show b ≤ b by omega)]
  · rename_i kk aa h1 h2
    obtain ⟨m, rfl, hm, h⟩ := h
    refine ⟨m, l, hm, by omega, h, fun w => ?_, fun u kk n hn => by obtain ⟨k', hk⟩ := hn; rw [h2] at hk; cases hk⟩
    simp [Instr.sliceBounds, none' _ h2, key _ h1, run_bound hm]
  · rename_i kk aa kk2 hh h1 h2
    obtain ⟨m, b, rfl, rfl, hmb, hb, h⟩ := h
    refine ⟨m, b, hmb, hb, h, fun w => ?_, fun u k2 n hn hu w => ?_⟩
    · simp [Instr.sliceBounds, key _ h1, key _ h2, run_bound (show b ≤ cap by omega), run_bound hmb]
    · obtain ⟨k', hk⟩ := hn
      rw [h2] at hk
      cases hk
      subst hu
      simp [Instr.sliceBounds, key _ h1, key _ h2, run_bound (show b ≤ cap by omega), run_bound (show b ≤ b by omega), run_bound hmb]
  · exact h.elim

theorem SlAt.sub {v : Value} {xs : List (List AV)} {A : Option Addr} {cc : Nat} (h : SlAt c xs v) (hv : v = .slice A xs.length cc) {sz : Nat} (hz : ∀ x ∈ xs, x.length = sz) {x y m : Nat} (hxy : x ≤ y) (hy : y ≤ xs.length) (hym : y ≤ m) :
    R0 c.w c.ok (.sl ((xs.take y).drop x)) (.slice (if m = x then A else A.map (·.add (x * sz))) (y - x) (m - x)) ∧ (m = y → R0 c.w c.ok (.slc ((xs.take y).drop x)) (.slice (if m = x then A else A.map (·.add (x * sz))) (y - x) (m - x))) := by
  have hlen : ((xs.take y).drop x).length = y - x := by rw [List.length_drop, List.length_take]; omega
  by_cases he : y = x
  · subst he
    have : (xs.take y).drop y = [] := by apply List.eq_nil_of_length_eq_zero; omega
    rw [this, Nat.sub_self]
    refine ⟨.sle _ _, fun h => ?_⟩
    subst h
    rw [Nat.sub_self]
    exact .slce _
  · have hm : m ≠ x := by omega
    rw [if_neg hm]
    obtain ⟨A', cc', rfl, hcc, hat⟩ := h.at_
    cases hv
    obtain ⟨b, off, sz', us, rfl, hb, hz', h1, h2⟩ := hat (by omega)
    have hs : sz' = sz := by
      have : 0 < xs.length := by omega
      obtain ⟨z, hz0⟩ := List.exists_mem_of_length_pos this
      rw [← hz' z hz0, hz z hz0]
    subst hs
    have hz'' : ∀ z ∈ (xs.take y).drop x, z.length = sz' := fun z hz0 => hz z (List.mem_of_mem_take (List.mem_of_mem_drop hz0))
    have hfl : ∀ (q : Nat) (av : AV), ((xs.take y).drop x).flatten[q]? = some av → xs.flatten[x * sz' + q]? = some av := fun q av hq => by
      rw [flatten_drop x (fun z hz0 => hz z (List.mem_of_mem_take hz0)), List.getElem?_drop, flatten_take y hz, List.getElem?_take] at hq
      split at hq
      · exact hq
      · cases hq
    have hle : x * sz' + (y - x) * sz' ≤ xs.length * sz' := by rw [← Nat.add_mul]; exact Nat.mul_le_mul_right _ (by omega)
    have hc : ∀ q, q < ((xs.take y).drop x).length * sz' → c.w.cell? ⟨b, off + x * sz' + q, none⟩ = some (us (x * sz' + q)) := fun q hq => by
      rw [hlen] at hq
      rw [Nat.add_assoc]
      exact h1 _ (by omega)
    have hr : ∀ (q : Nat) (av : AV), ((xs.take y).drop x).flatten[q]? = some av → R0 c.w c.ok av (us (x * sz' + q)) := fun q av hq => h2 _ _ (hfl q av hq)
    simp only [Option.map_some, add_at]
    constructor
    · have := R0.sl (w := c.w) (ok := c.ok) b (off + x * sz') sz' (m - x) (fun q => us (x * sz' + q)) hb (by omega) hz'' hc hr
      rw [hlen] at this
      exact this
    · intro hmy
      have := R0.slc (w := c.w) (ok := c.ok) b (off + x * sz') sz' (fun q => us (x * sz' + q)) hb hz'' hc hr
      rw [hlen] at this
      rw [hmy]
      exact this

theorem ex_slice {t : Nat} {x : Operand} {lo hi mx : Option Operand} (hT : TyOk P Γ) (ho : o.op = .slice t x lo hi mx) (hg : Good c L) (hρ : ∀ x, Rel c (ρ x) (a.eval x)) (h : vcE P Γ np o ρ L j k) : ∃ e, k e ∧ Ex P o a c L np e := by
  simp only [vcE, ho, frc_eq] at h
  have hx := hρ x
  split at h
  · rename_i i hi'
    obtain ⟨d, hd, hk⟩ := (hT _ _ hi').und
    split at h
    · rename_i e hik
      rw [hik] at hk
      simp only [TK.ok] at hk
      subst hk
      split at h
      · rename_i q hq
        have hq := hT _ _ hq
        split at h
        · rename_i xs hp
          rw [hp] at hx
          obtain ⟨hz, h⟩ := h
          have hsl := hx.sl_inv
          obtain ⟨A, cc, ex, hcc, _⟩ := hsl.at_
          obtain ⟨x0, y0, hxy, hy, hK, hr, hr3⟩ := cut_run (P := P) (a := a) hρ hcc h
          split at hK
          · exact ⟨_, hK, Ex.pureV hg (by rw [ho]) (by simp only [execOp, ho]; exact run_v (by rw [ex]; simp [Instr.sliceAt, run_underlying hd, Instr.slice, hr, run_sizeOf_of hq])) (.pure ((hsl.sub (m := cc) ex hz hxy hy (by omega)).1))⟩
          · rename_i m
            split at hK
            · rename_i k1 h1 k2 n2 hhi hm
              obtain ⟨rfl, hK⟩ := hK
              have hmv := hρ m
              rw [hm] at hmv
              exact ⟨_, hK, Ex.pureV hg (by rw [ho]) (by simp only [execOp, ho]; exact run_v (by rw [ex]; simp [Instr.sliceAt, run_underlying hd, Instr.slice, hr3 _ _ _ ⟨_, hhi⟩ hmv.int_inv, run_sizeOf_of hq])) (.pure ((hsl.sub (m := y0) ex hz hxy hy (Nat.le_refl _)).2 rfl))⟩
            · exact hK.elim
        · rename_i b hp
          rw [hp] at hx
          obtain ⟨e', hμ, ex⟩ := hx.rowf_inv
          obtain ⟨e'', hμ', hB⟩ := hg.blk b (hg.dom b e' hμ)
          rw [hμ] at hμ'; cases hμ'
          split at h
          · rename_i ty s xs hL
            rw [hL] at hB
            split at h
            · rename_i hs
              have hs := Nat.eq_of_beq_eq_true hs
              cases hnn : e'.nil with
              | true =>
                rw [Ent.val_nil hnn] at ex
                have hx0 := rows_nil hB hnn
                subst hx0
                obtain ⟨x0, y0, hxy, hy, hK, hr, _⟩ := cut_run (P := P) (a := a) (cap := 0) hρ (Nat.le_refl _) h
                simp only [List.length_nil, Nat.le_zero_eq] at hy
                subst hy
                obtain rfl : x0 = 0 := by omega
                exact ⟨_, hK, Ex.pureV hg (by rw [ho]) (v := .slice none 0 0) (by simp only [execOp, ho]; exact run_v (by rw [ex]; simp [Instr.sliceAt, run_underlying hd, Instr.slice, hr, run_sizeOf_of hq])) (.rown hμ hnn)⟩
              | false =>
                obtain ⟨cur, vs, hh, h2, hsz, hn', _, _, hcap, _⟩ := rows_at hB hnn
                rw [Ent.val_at hnn, hn'] at ex
                obtain ⟨x0, y0, hxy, hy, hK, hr, _⟩ := cut_run (P := P) (a := a) (cap := e'.cap) hρ (by omega) h
                refine ⟨_, hK, Ex.pureV hg (by rw [ho]) (v := .slice (some ⟨e'.b, if e'.cap = x0 then 0 else x0 * e'.sz, none⟩) (y0 - x0) (e'.cap - x0)) (by
                  simp only [execOp, ho]
                  refine run_v ?_
                  rw [ex]
                  have : (if e'.cap = x0 then some (⟨e'.b, 0, none⟩ : Addr) else some ((⟨e'.b, 0, none⟩ : Addr).add (x0 * q.sz))) = some ⟨e'.b, if e'.cap = x0 then 0 else x0 * e'.sz, none⟩ := by
                    rw [add_at, hsz, hs]
                    split <;> simp
                  simp [Instr.sliceAt, run_underlying hd, Instr.slice, hr, run_sizeOf_of hq, this]) (.row _ _ hμ hnn ?_ (by omega) (by omega))⟩
                split
                · exact .inr (by omega)
                · exact .inl rfl
            · exact h.elim
          · exact h.elim
        · exact h.elim
      · exact h.elim
    · exact h.elim
  · exact h.elim
end
end Go.Proofs.Ytcfbhojpemjjpaa
