/- An operation does what the walk says of it: variables, boxes, what is stored; maps. -/
import Derived.Test.YtcfbhojpemjjpaaM
set_option linter.unusedVariables false
set_option linter.unusedSimpArgs false
namespace Go.Proofs.Ytcfbhojpemjjpaa
open Go Go.RowKit

section
variable {P : Program} {Γ : Nat → Option TI} {o : Oper} {a : Act} {c : Cx} {L : Nat → Blk} {np j : Nat} {ρ : Operand → AV} {k : Eff → Prop}

theorem upd_self {α : Type} {f : Nat → α} {i : Nat} {v : α} (h : f i = v) : upd f i v = f := by
  funext q
  by_cases hq : q = i
  · subst hq; rw [upd_same, h]
  · rw [upd_ne _ _ hq]
theorem apL_plain (L : Nat → Blk) (v : AV) (wr : List (Nat × Blk)) (rd : List Nat) (al : Nat) : apL L { v := v, wr := wr, rd := rd, al := al } = wrL L wr := rfl
theorem apA_plain (L : Nat → Blk) (v : AV) (wr : List (Nat × Blk)) (rd : List Nat) (al : Nat) (x : AV) : apA L { v := v, wr := wr, rd := rd, al := al } x = x := rfl

theorem Stp.write (hg : Good c L) {i : Nat} {e : Ent} {B : Blk} (ob : Obj) (hi : c.μ i = some e) (hn : e.nil = false) (hB : B.alive = true) {x : AV} {v : Value} {rd : List Nat}
    (hnew : ∀ d : Cx, d.w = c.w.putObj e.b ob → d.ok = c.ok → (∀ a v, Rel c a v → Rel d a v) → (∀ a v, R0 c.w c.ok a v → R0 d.w d.ok a v) → BlkRel d B e) (hv : ∀ w ok, R0 w ok x v) :
    ∃ d, d.w = c.w.putObj e.b ob ∧ Stp c L np { v := x, wr := [(i, B)], rd := rd } v d := by
  have hlt : e.b < c.w.heap.size := hg.lt ⟨i, e, hi, hn, rfl⟩
  have hsz : (c.w.putObj e.b ob).heap.size = c.w.heap.size := by simp [World.putObj]
  have hh : ∀ b, b ≠ e.b → (c.w.putObj e.b ob).heap[b]? = c.w.heap[b]? := fun b hb => by
    simp only [World.putObj, Array.getElem?_setIfInBounds]
    rw [if_neg (fun h => hb h.symm)]
  have hr0 : ∀ a v, R0 c.w c.ok a v → R0 (c.w.putObj e.b ob) c.ok a v := fun a v h => h.mono (fun _ h => h) fun b hb => hh b fun he => (hg.okd b hb).2 ⟨i, e, hi, hn, he.symm⟩
  have hrel : ∀ a v, Rel c a v → Rel ⟨c.w.putObj e.b ob, c.ok, c.μ, c.yl⟩ a v := fun a v h => Rel.mono (d := ⟨c.w.putObj e.b ob, c.ok, c.μ, c.yl⟩) hr0 rfl (fun _ _ h => h) h
  have hn' := hnew ⟨c.w.putObj e.b ob, c.ok, c.μ, c.yl⟩ rfl rfl hrel hr0
  refine ⟨⟨c.w.putObj e.b ob, c.ok, c.μ, c.yl⟩, rfl, ⟨rfl, rfl, rfl, by rw [hsz]; exact Nat.le_refl _, fun b hb hno => hh b fun he => hno ⟨i, e, hi, hn, he.symm⟩, fun b hb => .inl hb, fun b hb => .inl hb, fun b hb => hb, rfl⟩, ?_, hrel, .pure (hv _ _), fun _ _ _ => rfl⟩
  exact hg.write hi hn hB (upd_self hi).symm rfl hn rfl (by rw [hsz]; exact Nat.le_refl _) hh hrel hr0 hn'
theorem Stp.alloc (hg : Good c L) (hnp : np ≤ j) (hj : (L j).alive = false) (ob : Obj) {e : Ent} {B : Blk} (he : e.b = c.w.heap.size) (hn : e.nil = false) (hB : B.alive = true) {x : AV} {v : Value} {rd : List Nat}
    (hnew : ∀ d : Cx, d = ⟨c.w.alloc ob, c.ok, upd c.μ j (some e), c.yl⟩ → (∀ a v, Rel c a v → Rel d a v) → (∀ a v, R0 c.w c.ok a v → R0 d.w d.ok a v) → BlkRel d B e) (hv : ∀ d : Cx, d.μ j = some e → Rel d x v) :
    ∃ d, d.w = c.w.alloc ob ∧ Stp c L np { v := x, wr := [(j, B)], rd := rd, al := 1 } v d := by
  have hj' : c.μ j = none := by
    cases h : c.μ j with
    | none => rfl
    | some x => have := hg.dom j x h; rw [hj] at this; cases this
  have hr0 : ∀ a v, R0 c.w c.ok a v → R0 (c.w.alloc ob) c.ok a v := fun a v h => h.mono (fun _ h => h) fun b hb => Below.heap_alloc _ _ _ (hg.okd b hb).1
  have hrel : ∀ a v, Rel c a v → Rel ⟨c.w.alloc ob, c.ok, upd c.μ j (some e), c.yl⟩ a v := fun a v h => Rel.mono (d := ⟨c.w.alloc ob, c.ok, upd c.μ j (some e), c.yl⟩) hr0 rfl (fun q x hq => by
    show upd c.μ j (some e) q = some x
    rw [upd_ne _ _ (fun hqj => by subst hqj; rw [hj'] at hq; cases hq)]
    exact hq) h
  obtain ⟨h1, h2, h3⟩ := hg.alloc ob hj hB he hn (hnew _ rfl hrel hr0)
  refine ⟨_, rfl, h2, h1, h3, hv _ (upd_same _ _ _), fun i hi _ => ?_⟩
  exact upd_ne _ _ (by omega)
/-- A block told anew, it may be at another place: what pointed into it is let go of. -/
theorem Stp.put {d : Cx} (hg : Good c L) {i : Nat} (hnp : np ≤ i) {e' : Ent} {B : Blk} (hB : B.alive = true) (hμ : d.μ = upd c.μ i (some e')) (hb : e'.nil = false → c.w.heap.size ≤ e'.b ∨ ∃ e, c.μ i = some e ∧ e.nil = false ∧ e.b = e'.b)
    (hok : d.ok = c.ok) (hy : d.yl = c.yl) (hos : d.w.os = c.w.os) (hta : d.w.tape = c.w.tape) (hou : d.w.output = c.w.output) (hsz : c.w.heap.size ≤ d.w.heap.size)
    (hh : ∀ b, b < c.w.heap.size → (∀ e, c.μ i = some e → e.nil = false → b ≠ e.b) → d.w.heap[b]? = c.w.heap[b]?) {x : AV} {v : Value} {rd : List Nat} (hnew : (∀ a v, R0 c.w c.ok a v → R0 d.w d.ok a v) → BlkRel d B e') (hv : Rel d x v) :
    Stp c L np { v := x, wr := [(i, B)], scr := [i], rd := rd } v d := by
  have hr0 : ∀ a v, R0 c.w c.ok a v → R0 d.w d.ok a v := fun a v h => h.mono (fun b hb => by rw [hok]; exact hb) fun b hb => hh b (hg.okd b hb).1 fun e he hn hbe => (hg.okd b hb).2 ⟨i, e, he, hn, hbe.symm⟩
  have hsc : ∀ a v, Rel c a v → Rel d (scA [i] a) v := fun a v h => sc_rel [i] hr0 hy (fun q e hq hqe => by
    rw [hμ, upd_ne]
    · exact hqe
    · intro hqi
      subst hqi
      simp [memB] at hq) h
  have hnew := hnew hr0
  have hcase : ∀ q x, d.μ q = some x → (q = i ∧ x = e') ∨ (q ≠ i ∧ c.μ q = some x) := fun q x hq => by
    rw [hμ] at hq
    by_cases hqi : q = i
    · subst hqi
      rw [upd_same] at hq
      cases hq
      exact .inl ⟨rfl, rfl⟩
    · rw [upd_ne _ _ hqi] at hq
      exact .inr ⟨hqi, hq⟩
  have hL : ∀ q, q ≠ i → apL L { v := x, wr := [(i, B)], scr := [i], rd := rd } q = (L q).map' (trav (gScr [i]) 8) := fun q hq => upd_ne _ _ hq
  have hLi : apL L { v := x, wr := [(i, B)], scr := [i], rd := rd } i = B := upd_same _ _ _
  have hown : ∀ b, d.own b → c.own b ∨ c.w.heap.size ≤ b := by
    rintro b ⟨q, x, hq, hx, rfl⟩
    rcases hcase q x hq with ⟨rfl, rfl⟩ | ⟨_, hq⟩
    · rcases hb hx with h | ⟨e, he, hn, hbe⟩
      · exact .inr h
      · exact .inl ⟨_, e, he, hn, hbe⟩
    · exact .inl ⟨q, x, hq, hx, rfl⟩
  refine ⟨⟨hos, hta, hou, hsz, fun b hb hno => hh b hb fun e he hn hbe => hno ⟨i, e, he, hn, hbe.symm⟩, hown, fun b hb => .inl (by rw [← hok]; exact hb), fun b hb => by rw [hok]; exact hb, hy⟩, ⟨fun q hq => ?_, fun q x hq => ?_, fun q l x y hq hl hx hy' hxy => ?_, fun b hb' => ?_⟩, ?_, hv, fun q hq _ => ?_⟩
  · by_cases hqi : q = i
    · subst hqi
      rw [hLi]
      exact ⟨e', by rw [hμ, upd_same], hnew⟩
    · rw [hL q hqi] at hq ⊢
      rw [alive_map'] at hq
      obtain ⟨x, hx, hr⟩ := hg.blk q hq
      refine ⟨x, by rw [hμ, upd_ne _ _ hqi]; exact hx, hr.turn _ hsc hr0 fun hxn => hh _ (hr.lt hxn) fun e he hn hbe => hqi (hg.inj _ _ _ _ hx he hxn hn hbe)⟩
  · rcases hcase q x hq with ⟨rfl, rfl⟩ | ⟨hqi, hq⟩
    · rw [hLi]; exact hB
    · rw [hL q hqi, alive_map']
      exact hg.dom q x hq
  · rcases hcase q x hq with ⟨rfl, rfl⟩ | ⟨hqi, hq'⟩ <;> rcases hcase l y hl with ⟨rfl, rfl⟩ | ⟨hli, hl'⟩
    · rfl
    · rcases hb hx with h | ⟨e, he, hn, hbe⟩
      · exact absurd (hg.lt ⟨l, y, hl', hy', rfl⟩) (by rw [← hxy]; omega)
      · exact hg.inj _ _ _ _ he hl' hn hy' (by rw [hbe, hxy])
    · rcases hb hy' with h | ⟨e, he, hn, hbe⟩
      · exact absurd (hg.lt ⟨q, x, hq', hx, rfl⟩) (by rw [hxy]; omega)
      · exact hg.inj _ _ _ _ hq' he hx hn (by rw [hbe, hxy])
    · exact hg.inj q l x y hq' hl' hx hy' hxy
  · rw [hok] at hb'
    have := hg.okd b hb'
    exact ⟨by omega, fun ho => (hown b ho).elim this.2 fun h => by omega⟩
  · exact hsc
  · rw [hμ, upd_ne]
    omega
/-- The world's own counters turn; memory does not. -/
theorem Good.drew (hg : Good c L) : Good ⟨c.w.drew, c.ok, c.μ, c.yl⟩ L ∧ Fr c ⟨c.w.drew, c.ok, c.μ, c.yl⟩ ∧ (∀ a v, Rel c a v → Rel ⟨c.w.drew, c.ok, c.μ, c.yl⟩ a v) := by
  have hr0 : ∀ a v, R0 c.w c.ok a v → R0 c.w.drew c.ok a v := fun a v h => R0.mono (w := c.w) (w' := c.w.drew) (fun _ h => h) (fun _ _ => rfl) h
  have hrel : ∀ a v, Rel c a v → Rel ⟨c.w.drew, c.ok, c.μ, c.yl⟩ a v := fun a v h => Rel.mono (d := ⟨c.w.drew, c.ok, c.μ, c.yl⟩) hr0 rfl (fun _ _ h => h) h
  refine ⟨⟨fun i hi => ?_, hg.dom, hg.inj, hg.okd⟩, ⟨rfl, rfl, rfl, Nat.le_refl _, fun _ _ _ => rfl, fun _ h => .inl h, fun _ h => .inl h, fun _ h => h, rfl⟩, hrel⟩
  obtain ⟨e, he, hr⟩ := hg.blk i hi
  exact ⟨e, he, hr.keep hrel hr0 fun _ => rfl⟩

theorem ex_alloc {t : Nat} (hT : TyOk P Γ) (hnp : np ≤ j) (ho : o.op = .alloc t) (hg : Good c L) (hρ : ∀ x, Rel c (ρ x) (a.eval x)) (h : vcE P Γ np o ρ L j k) : ∃ e, k e ∧ Ex P o a c L np e := by
  simp only [vcE, ho, frc_eq] at h
  split at h
  · rename_i i hi
    have hi := hT _ _ hi
    split at h
    · rename_i hj
      obtain ⟨q, z, hq, _, _, hz, hz2, _⟩ := z_rel (c := c) hi
      obtain ⟨d, hd, hs⟩ := Stp.alloc (np := np) (rd := [j]) (x := .ptr j 0 0) (v := .pointer (some ⟨c.w.heap.size, 0, none⟩)) hg hnp hj (.cells z.cells t (0, 0)) (e := ⟨c.w.heap.size, 1, 0, 0, false⟩) (B := .box t i.z) rfl rfl rfl
        (fun d hd hrel hr0 => by subst hd; exact .box z.cells.toList rfl (heap_alloc_new _ _) (hz2.imp fun _ _ _ h => .pure (hr0 _ _ h))) (fun d hd => by have := Rel.ptr (c := d) (k := 0) (j := 0) hd rfl; simpa using this)
      refine ⟨_, h, Ex.value (by rw [ho]) (v := .pointer (some ⟨c.w.heap.size, 0, none⟩)) ?_ hs⟩
      simp only [execOp, ho]
      refine run_v ?_
      rw [hd]
      simp [Instr.alloc, zeroValue, typeInfo, hq, hz, newVar, newRow]
    · exact h.elim
  · exact h.elim
theorem ex_box {t : Nat} {x : Operand} (hnp : np ≤ j) (ho : o.op = .box t x) (hg : Good c L) (hρ : ∀ x, Rel c (ρ x) (a.eval x)) (h : vcE P Γ np o ρ L j k) : ∃ e, k e ∧ Ex P o a c L np e := by
  simp only [vcE, ho, frc_eq, frcL_eq] at h
  split at h
  · rename_i cs hcs
    split at h
    · rename_i hj
      have h2 := cells_rel (hρ x) hcs
      obtain ⟨d, hd, hs⟩ := Stp.alloc (np := np) (rd := [j]) (x := .ptr j 0 0) (v := .pointer (some ⟨c.w.heap.size, 0, none⟩)) hg hnp hj (.cells (a.eval x).cells t (0, 0)) (e := ⟨c.w.heap.size, 1, 0, 0, false⟩) (B := .box t cs) rfl rfl rfl
        (fun d hd hrel hr0 => by subst hd; exact .box (a.eval x).cells.toList rfl (heap_alloc_new _ _) (h2.imp fun _ _ _ h => hrel _ _ h)) (fun d hd => by have := Rel.ptr (c := d) (k := 0) (j := 0) hd rfl; simpa using this)
      refine ⟨_, h, Ex.value (by rw [ho]) (v := .pointer (some ⟨c.w.heap.size, 0, none⟩)) ?_ hs⟩
      simp only [execOp, ho]
      refine run_v ?_
      rw [hd]
      simp [Instr.box, newVar, newRow]
    · exact h.elim
  · exact h.elim
theorem ex_makeMap {t : Nat} {r : Option Operand} (hT : TyOk P Γ) (hnp : np ≤ j) (ho : o.op = .makeMap t r) (hg : Good c L) (hρ : ∀ x, Rel c (ρ x) (a.eval x)) (h : vcE P Γ np o ρ L j k) : ∃ e, k e ∧ Ex P o a c L np e := by
  cases r with
  | some r => simp only [vcE, ho] at h
  | none =>
  simp only [vcE, ho] at h
  split at h
  · split at h
    · split at h
      · split at h
        · rename_i kk _
          split at h
          · rename_i hj
            obtain ⟨d, hd, hs⟩ := Stp.alloc (np := np) (rd := [j]) (x := .mp j) (v := .map (some c.w.heap.size)) hg hnp hj (.map #[] 0) (e := ⟨c.w.heap.size, 1, 0, 0, false⟩) (B := .map kk []) rfl rfl rfl
              (fun d hd hrel hr0 => by subst hd; exact .map rfl #[] 0 (heap_alloc_new _ _) .nil) (fun d hd => .mp hd rfl)
            refine ⟨_, h, Ex.value (by rw [ho]) (v := .map (some c.w.heap.size)) ?_ hs⟩
            simp only [execOp, ho]
            refine run_v ?_
            rw [hd]
            simp [Instr.makeMap]
          · exact h.elim
        · exact h.elim
      · exact h.elim
    · exact h.elim
  · exact h.elim
end
end Go.Proofs.Ytcfbhojpemjjpaa
