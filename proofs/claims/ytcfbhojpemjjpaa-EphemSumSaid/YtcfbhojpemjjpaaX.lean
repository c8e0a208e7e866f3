/- The walk through code; a function's contract from its body. -/
import Derived.Test.YtcfbhojpemjjpaaU
import Derived.LoopNIn
set_option linter.unusedVariables false
set_option linter.unusedSimpArgs false
namespace Go.Proofs.Ytcfbhojpemjjpaa
open Go Go.RowKit

def below (base : Option Nat) (b : Nat) : Prop := ∃ m, base = some m ∧ b < m
/-- The world goes on elsewhere: nothing that Pr names, nothing that is the walk's own or never changes, is turned. -/
structure Ev (Pr : Nat → Prop) (c c' : Cx) : Prop where
  os : c'.w.os = c.w.os
  tape : c'.w.tape = c.w.tape
  output : c'.w.output = c.w.output
  size : c.w.heap.size ≤ c'.w.heap.size
  same : ∀ b, b < c.w.heap.size → (Pr b ∨ c.own b ∨ c.ok b) → c'.w.heap[b]? = c.w.heap[b]?
  μ : c'.μ = c.μ
  ok : c'.ok = c.ok
  yl : c'.yl = c.yl
abbrev StE (T : Option Nat → Cx → Prop) (base : Option Nat) : Prop := ∀ y c c', Ev (below base) c c' → T y c → T y c'
abbrev Stable (T : Option Nat → Cx → Prop) : Prop := ∀ y c d, Fr c d → T y c → T y d
/-- The second state says no more than the first. -/
def Wk (s s' : St) : Prop := s'.y = s.y ∧ ∀ (T : Option Nat → Cx → Prop) (base : Option Nat) (G : List Value), Stable T → ∀ c a, Sim T base G s c a → ∃ d, d.w = c.w ∧ Fr c d ∧ Sim T base G s' d a
theorem Wk.refl (s : St) : Wk s s := ⟨rfl, fun _ _ _ _ c _ h => ⟨c, rfl, Fr.refl c, h⟩⟩
theorem Wk.trans {s s' s'' : St} (h : Wk s s') (h' : Wk s' s'') : Wk s s'' := by
  refine ⟨h'.1.trans h.1, fun T base G hst c a hs => ?_⟩
  obtain ⟨d, hd, hf, hs'⟩ := h.2 T base G hst c a hs
  obtain ⟨e, he, hf', hs''⟩ := h'.2 T base G hst d a hs'
  exact ⟨e, he.trans hd, hf.trans hf', hs''⟩
/-- Slots by a list; what is not listed is not known. -/
def tl : List (Nat × AV) → Nat → AV
  | [], _ => .any
  | (j, v) :: l, i => bif Nat.beq i j then v else tl l i
def Ll : List (Nat × Blk) → Nat → Blk
  | [], _ => .dead
  | (j, v) :: l, i => bif Nat.beq i j then v else Ll l i
def gKeep (K : List Nat) : AV → AV
  | .ptr i k j => bif memB K i then .ptr i k j else .any
  | .row i o m => bif memB K i then .row i o m else .any
  | .rowf i => bif memB K i then .rowf i else .any
  | .mp i => bif memB K i then .mp i else .any
  | a => a
def kA (K : List Nat) (a : AV) : AV := trav (gKeep K) 8 a
theorem beq_true_of {a b : Nat} (h : Nat.beq a b = true) : a = b := Nat.eq_of_beq_eq_true h
theorem kA_rel {c d : Cx} (K : List Nat) (hp : ∀ a v, R0 c.w c.ok a v → R0 d.w d.ok a v) (hy : d.yl = c.yl) (hμ : ∀ i e, memB K i = true → c.μ i = some e → d.μ i = some e) {a : AV} {v : Value} (h : Rel c a v) : Rel d (kA K a) v := by
  refine Rel.trav (c := c) (d := d) hp hy (fun a v hr h => ?_) h 8
  cases h with
  | pure h => cases h <;> simp [AV.isRef] at hr
  | fn => simp [AV.isRef] at hr
  | agg => simp [AV.isRef] at hr
  | tup => simp [AV.isRef] at hr
  | yld => simp [AV.isRef] at hr
  | ptr h hn =>
    rename_i i k j e
    simp only [gKeep]
    cases hl : memB K i with
    | false => exact .pure (.any _)
    | true => exact .ptr (hμ i e hl h) hn
  | row cc oo h hn ho hc hl' =>
    rename_i i o m e
    simp only [gKeep]
    cases hl : memB K i with
    | false => exact .pure (.any _)
    | true => exact .row cc oo (hμ i e hl h) hn ho hc hl'
  | rown h hn =>
    rename_i i e
    simp only [gKeep]
    cases hl : memB K i with
    | false => exact .pure (.any _)
    | true => exact .rown (hμ i e hl h) hn
  | rowf h =>
    rename_i i e
    simp only [gKeep]
    cases hl : memB K i with
    | false => exact .pure (.any _)
    | true => exact .rowf (hμ i e hl h)
  | mp h hn =>
    rename_i i e
    simp only [gKeep]
    cases hl : memB K i with
    | false => exact .pure (.any _)
    | true => exact .mp (hμ i e hl h) hn
def allP {α : Type} (p : α → Prop) : List α → Prop
  | [] => True
  | a :: l => p a ∧ allP p l
theorem allP_mem {α : Type} {p : α → Prop} {l : List α} (h : allP p l) {a : α} (ha : a ∈ l) : p a := by
  induction l with
  | nil => cases ha
  | cons b l ih =>
    rcases List.mem_cons.1 ha with rfl | ha
    · exact h.1
    · exact ih h.2 ha
theorem tl_case (l : List (Nat × AV)) (i : Nat) : tl l i = .any ∨ ∃ p ∈ l, p.1 = i ∧ tl l i = p.2 := by
  induction l with
  | nil => exact .inl rfl
  | cons p l ih =>
    obtain ⟨j, v⟩ := p
    simp only [tl]
    cases hb : Nat.beq i j with
    | true => exact .inr ⟨(j, v), by simp, (Nat.eq_of_beq_eq_true hb).symm, rfl⟩
    | false =>
      rcases ih with h | ⟨p, hp, h1, h2⟩
      · exact .inl h
      · exact .inr ⟨p, by simp [hp], h1, h2⟩
theorem Ll_case (l : List (Nat × Blk)) (i : Nat) : (Ll l i = .dead ∧ i ∉ l.map (·.1)) ∨ ∃ p ∈ l, p.1 = i ∧ Ll l i = p.2 := by
  induction l with
  | nil => exact .inl ⟨rfl, by simp⟩
  | cons p l ih =>
    obtain ⟨j, v⟩ := p
    simp only [Ll]
    cases hb : Nat.beq i j with
    | true => exact .inr ⟨(j, v), by simp, (Nat.eq_of_beq_eq_true hb).symm, rfl⟩
    | false =>
      rcases ih with ⟨h, h'⟩ | ⟨p, hp, h1, h2⟩
      · refine .inl ⟨h, ?_⟩
        have : i ≠ j := fun he => by subst he; simp at hb
        simpa [this] using h'
      · exact .inr ⟨p, by simp [hp], h1, h2⟩
theorem memB_iff (K : List Nat) (i : Nat) : memB K i = true ↔ i ∈ K := by
  unfold memB
  rw [List.any_eq_true]
  constructor
  · rintro ⟨x, hx, h⟩
    rw [Nat.eq_of_beq_eq_true h]
    exact hx
  · intro h
    exact ⟨i, h, by simp⟩
/-- Only the slots and the blocks that are listed are kept. -/
theorem Wk.keep {s : St} (ts : List (Nat × AV)) (bs : List (Nat × Blk)) (g : List AV) (nx : Nat) (hb : allP (fun p => (s.L p.1).map' (kA (bs.map (·.1))) = p.2) bs) (ht : allP (fun p => kA (bs.map (·.1)) (s.t p.1) = p.2) ts)
    (hal : bs.all (fun p => p.2.alive) = true) (hg : s.g.map (kA (bs.map (·.1))) = g) : Wk s ⟨tl ts, Ll bs, s.nt, nx, g, s.y⟩ := by
  refine ⟨rfl, fun T base G hst c a h => ?_⟩
  let K := bs.map (·.1)
  let d : Cx := ⟨c.w, c.ok, fun i => bif memB K i then c.μ i else none, c.yl⟩
  have hμ : ∀ i e, memB K i = true → c.μ i = some e → d.μ i = some e := fun i e hi he => by show (bif memB K i then c.μ i else none) = some e; rw [hi]; exact he
  have hμ' : ∀ i e, d.μ i = some e → memB K i = true ∧ c.μ i = some e := fun i e he => by
    change (bif memB K i then c.μ i else none) = some e at he
    cases hm : memB K i with
    | false => rw [hm] at he; cases he
    | true => rw [hm] at he; exact ⟨rfl, he⟩
  have hk : ∀ a v, Rel c a v → Rel d (kA K a) v := fun a v h => kA_rel (c := c) (d := d) K (fun _ _ h => h) rfl hμ h
  have hown : ∀ b, d.own b → c.own b := fun b ⟨i, e, he, hn, hb⟩ => ⟨i, e, (hμ' i e he).2, hn, hb⟩
  have hfr : Fr c d := ⟨rfl, rfl, rfl, Nat.le_refl _, fun _ _ _ => rfl, fun b hb => .inl (hown b hb), fun b hb => .inl hb, fun b hb => hb, rfl⟩
  refine ⟨d, rfl, hfr, h.sz, fun i => ?_, ⟨fun i hi => ?_, fun i e he => ?_, fun i j e e' he he' hn hn' hbb => ?_, fun b hb => ⟨(h.good.okd b hb).1, fun ho => (h.good.okd b hb).2 (hown b ho)⟩⟩, ?_, ?_, hst _ _ _ hfr h.tt⟩
  · rcases tl_case ts i with hi | ⟨p, hp, rfl, hi⟩
    · show Rel d (tl ts i) _
      rw [hi]
      exact .pure (.any _)
    · show Rel d (tl ts p.1) _
      rw [hi, ← allP_mem ht hp]
      exact hk _ _ (h.tm p.1)
  · rcases Ll_case bs i with ⟨hi', _⟩ | ⟨p, hp, rfl, hi'⟩
    · change (Ll bs i).alive = true at hi
      rw [hi'] at hi
      cases hi
    · change (Ll bs p.1).alive = true at hi
      rw [hi', ← allP_mem hb hp, alive_map'] at hi
      obtain ⟨e, he, hr⟩ := h.good.blk _ hi
      refine ⟨e, hμ _ _ ((memB_iff _ _).2 (List.mem_map.2 ⟨p, hp, rfl⟩)) he, ?_⟩
      show BlkRel d (Ll bs p.1) e
      rw [hi', ← allP_mem hb hp]
      exact hr.turn _ hk (fun _ _ h => h) fun _ => rfl
  · obtain ⟨hm, he'⟩ := hμ' i e he
    rcases Ll_case bs i with ⟨_, hi'⟩ | ⟨p, hp, rfl, hi'⟩
    · exact absurd ((memB_iff _ _).1 hm) hi'
    · show (Ll bs p.1).alive = true
      rw [hi']
      exact List.all_eq_true.1 hal p hp
  · exact h.good.inj i j e e' (hμ' i e he).2 (hμ' j e' he').2 hn hn' hbb
  · show F2 (Rel d) g G
    rw [← hg]
    exact h.gh.maps _ hk
  · obtain ⟨rs, hr⟩ := h.df
    exact ⟨rs, hr.fr hfr⟩
/-- A nil slice in a slot is taken for a row of the walk's own, empty yet. -/
theorem Wk.adopt {s : St} (i b ty sz : Nat) (hi : s.t i = .nilsl) (hb : (s.L b).alive = false) (h0 : 0 < sz) : Wk s { s with t := upd s.t i (.rowf b), L := upd s.L b (.rows ty sz []) } := by
  refine ⟨rfl, fun T base G hst c a h => ?_⟩
  let e : Ent := ⟨0, sz, 0, 0, true⟩
  have hb' : c.μ b = none := by
    cases h' : c.μ b with
    | none => rfl
    | some x => have := h.good.dom b x h'; rw [hb] at this; cases this
  let d : Cx := ⟨c.w, c.ok, upd c.μ b (some e), c.yl⟩
  have hμ : ∀ j x, c.μ j = some x → d.μ j = some x := fun j x hj => by
    show upd c.μ b (some e) j = some x
    rw [upd_ne _ _ (fun hjb => by subst hjb; rw [hb'] at hj; cases hj)]
    exact hj
  have hcase : ∀ j x, d.μ j = some x → (j = b ∧ x = e) ∨ (j ≠ b ∧ c.μ j = some x) := fun j x hj => by
    change upd c.μ b (some e) j = some x at hj
    by_cases hjb : j = b
    · subst hjb; rw [upd_same] at hj; cases hj; exact .inl ⟨rfl, rfl⟩
    · rw [upd_ne _ _ hjb] at hj; exact .inr ⟨hjb, hj⟩
  have hrel : ∀ a v, Rel c a v → Rel d a v := fun a v h => Rel.mono (c := c) (d := d) (fun _ _ h => h) rfl hμ h
  have hown : ∀ x, d.own x → c.own x := fun x ⟨j, y, hj, hn, hx⟩ => by
    rcases hcase j y hj with ⟨rfl, rfl⟩ | ⟨_, hj⟩
    · cases hn
    · exact ⟨j, y, hj, hn, hx⟩
  have hfr : Fr c d := ⟨rfl, rfl, rfl, Nat.le_refl _, fun _ _ _ => rfl, fun x hx => .inl (hown x hx), fun b hb => .inl hb, fun b hb => hb, rfl⟩
  have hdb : d.μ b = some e := upd_same _ _ _
  refine ⟨d, rfl, hfr, h.sz, fun j => ?_, ⟨fun j hj => ?_, fun j x hj => ?_, fun j l x y hj hl hx hy hxy => ?_, fun x hx => ⟨(h.good.okd x hx).1, fun ho => (h.good.okd x hx).2 (hown x ho)⟩⟩, h.gh.imp fun a v _ => hrel a v, ?_, hst _ _ _ hfr h.tt⟩
  · show Rel d (upd s.t i (.rowf b) j) _
    by_cases hji : j = i
    · subst hji
      rw [upd_same]
      have := h.tm j
      rw [hi] at this
      rw [this.nilsl_inv]
      exact .rowf (e := e) hdb
    · rw [upd_ne _ _ hji]
      exact hrel _ _ (h.tm j)
  · show ∃ e, d.μ j = some e ∧ BlkRel d (upd s.L b (.rows ty sz []) j) e
    by_cases hjb : j = b
    · subst hjb
      rw [upd_same]
      exact ⟨e, hdb, .rows [] (World.ownsRow_nil _ _ _ _) .nil rfl rfl (by simp) h0 (by simp)⟩
    · change (upd s.L b (.rows ty sz []) j).alive = true at hj
      rw [upd_ne _ _ hjb] at hj ⊢
      obtain ⟨x, hx, hr⟩ := h.good.blk j hj
      exact ⟨x, hμ _ _ hx, hr.keep hrel (fun _ _ h => h) fun _ => rfl⟩
  · show (upd s.L b (.rows ty sz []) j).alive = true
    rcases hcase j x hj with ⟨rfl, rfl⟩ | ⟨hjb, hj⟩
    · rw [upd_same]; rfl
    · rw [upd_ne _ _ hjb]
      exact h.good.dom j x hj
  · rcases hcase j x hj with ⟨rfl, rfl⟩ | ⟨hjb, hj⟩ <;> rcases hcase l y hl with ⟨rfl, rfl⟩ | ⟨hlb, hl⟩
    · rfl
    · cases hx
    · cases hy
    · exact h.good.inj j l x y hj hl hx hy hxy
  · obtain ⟨rs, hr⟩ := h.df
    exact ⟨rs, hr.fr hfr⟩

/-- A nil slice in a variable is taken for a row of the walk's own, empty yet. -/
theorem Wk.adoptB {s : St} (i b bt ty sz : Nat) (hi : s.L i = .box bt [.nilsl]) (hb : (s.L b).alive = false) (h0 : 0 < sz) : Wk s { s with L := upd (upd s.L i (.box bt [.rowf b])) b (.rows ty sz []) } := by
  refine ⟨rfl, fun T base G hst c a h => ?_⟩
  have hib : i ≠ b := fun he => by rw [he] at hi; rw [hi] at hb; cases hb
  let e : Ent := ⟨0, sz, 0, 0, true⟩
  have hb' : c.μ b = none := by
    cases h' : c.μ b with
    | none => rfl
    | some x => have := h.good.dom b x h'; rw [hb] at this; cases this
  let d : Cx := ⟨c.w, c.ok, upd c.μ b (some e), c.yl⟩
  have hμ : ∀ j x, c.μ j = some x → d.μ j = some x := fun j x hj => by
    show upd c.μ b (some e) j = some x
    rw [upd_ne _ _ (fun hjb => by subst hjb; rw [hb'] at hj; cases hj)]
    exact hj
  have hcase : ∀ j x, d.μ j = some x → (j = b ∧ x = e) ∨ (j ≠ b ∧ c.μ j = some x) := fun j x hj => by
    change upd c.μ b (some e) j = some x at hj
    by_cases hjb : j = b
    · subst hjb; rw [upd_same] at hj; cases hj; exact .inl ⟨rfl, rfl⟩
    · rw [upd_ne _ _ hjb] at hj; exact .inr ⟨hjb, hj⟩
  have hrel : ∀ a v, Rel c a v → Rel d a v := fun a v h => Rel.mono (c := c) (d := d) (fun _ _ h => h) rfl hμ h
  have hown : ∀ x, d.own x → c.own x := fun x ⟨j, y, hj, hn, hx⟩ => by
    rcases hcase j y hj with ⟨rfl, rfl⟩ | ⟨_, hj⟩
    · cases hn
    · exact ⟨j, y, hj, hn, hx⟩
  have hfr : Fr c d := ⟨rfl, rfl, rfl, Nat.le_refl _, fun _ _ _ => rfl, fun x hx => .inl (hown x hx), fun b hb => .inl hb, fun b hb => hb, rfl⟩
  have hdb : d.μ b = some e := upd_same _ _ _
  refine ⟨d, rfl, hfr, h.sz, fun j => hrel _ _ (h.tm j), ⟨fun j hj => ?_, fun j x hj => ?_, fun j l x y hj hl hx hy hxy => ?_, fun x hx => ⟨(h.good.okd x hx).1, fun ho => (h.good.okd x hx).2 (hown x ho)⟩⟩, h.gh.imp fun a v _ => hrel a v, ?_, hst _ _ _ hfr h.tt⟩
  · show ∃ e, d.μ j = some e ∧ BlkRel d (upd (upd s.L i (.box bt [.rowf b])) b (.rows ty sz []) j) e
    by_cases hjb : j = b
    · subst hjb
      rw [upd_same]
      exact ⟨e, hdb, .rows [] (World.ownsRow_nil _ _ _ _) .nil rfl rfl (by simp) h0 (by simp)⟩
    · change (upd (upd s.L i (.box bt [.rowf b])) b (.rows ty sz []) j).alive = true at hj
      rw [upd_ne _ _ hjb] at hj ⊢
      by_cases hji : j = i
      · subst hji
        rw [upd_same]
        obtain ⟨x, hx, hr⟩ := h.good.blk j (by rw [hi]; rfl)
        rw [hi] at hr
        refine ⟨x, hμ _ _ hx, ?_⟩
        cases hr with
        | box vs hn hh h2 =>
        cases h2 with
        | cons hr ht =>
        cases ht
        rw [hr.nilsl_inv] at hh
        exact .box _ hn hh (.cons (.rowf (e := e) hdb) .nil)
      · rw [upd_ne _ _ hji] at hj ⊢
        obtain ⟨x, hx, hr⟩ := h.good.blk j hj
        exact ⟨x, hμ _ _ hx, hr.keep hrel (fun _ _ h => h) fun _ => rfl⟩
  · show (upd (upd s.L i (.box bt [.rowf b])) b (.rows ty sz []) j).alive = true
    rcases hcase j x hj with ⟨rfl, rfl⟩ | ⟨hjb, hj⟩
    · rw [upd_same]; rfl
    · rw [upd_ne _ _ hjb]
      by_cases hji : j = i
      · subst hji; rw [upd_same]; rfl
      · rw [upd_ne _ _ hji]
        exact h.good.dom j x hj
  · rcases hcase j x hj with ⟨rfl, rfl⟩ | ⟨hjb, hj⟩ <;> rcases hcase l y hl with ⟨rfl, rfl⟩ | ⟨hlb, hl⟩
    · rfl
    · cases hx
    · cases hy
    · exact h.good.inj j l x y hj hl hx hy hxy
  · obtain ⟨rs, hr⟩ := h.df
    exact ⟨rs, hr.fr hfr⟩

section
variable (P : Program) (Γ : Nat → Option TI) (Y : List AV → St → (AV → St → Prop) → Prop) (D : List Oper → St → (St → Prop) → Prop) (R : Operand → Array Tmp → Code → Code → (Exit → St → Prop) → St → Prop)
/-- What code asks. -/
noncomputable def vcC (x : Code) : (Exit → St → Prop) → St → Prop :=
  Code.rec (motive := fun _ => (Exit → St → Prop) → St → Prop)
    (fun Q s => Q .normal s)
    (fun _ ops d Q s => match d with | false => vcOps P Γ 0 Y ops.toList ops.toList s (Q .normal) | true => D ops.toList s (Q .normal))
    (fun _ _ ihx ihy Q s => ihx (fun e s => match e with | .normal => ∃ s', Wk s s' ∧ ihy Q s' | e => Q e s) s)
    (fun c _ _ ihx ihy Q s => frc (s.ev c) fun v => match v with
      | .bool t => splitB t fun t => match t, c with
        | true, .tmp d => ihx Q { s with t := upd s.t d (.bool true) }
        | false, .tmp d => ihy Q { s with t := upd s.t d (.bool false) }
        | true, _ => ihx Q s
        | false, _ => ihy Q s
      | _ => False)
    (fun id _ ih Q s => ih (fun e s => match e with | .exit j => (match Nat.beq j id with | true => Q .normal s | false => Q (.exit j) s) | e => Q e s) s)
    (fun _ ih Q s => ∃ (α : Type) (p : α → Prop) (F : α → St) (m : α → Nat), (∃ i, Wk s (F i) ∧ p i) ∧ ∀ i, p i → ih (fun e s => match e with | .normal => ∃ j, Wk s (F j) ∧ p j ∧ m j < m i | e => Q e s) (F i))
    (fun f ps x y _ _ Q s => R f ps x y Q s)
    (fun id Q s => Q (.exit id) s)
    (fun _ _ _ _ => False)
    (fun _ Q s => Q .normal s)
    (fun _ _ _ => False)
    (fun Q s => Q .ret s)
    (fun _ _ _ => False) x
theorem vcC_cond (c : Operand) (x y : Code) (Q : Exit → St → Prop) (s : St) : vcC P Γ Y D R (.cond c x y) Q s = frc (s.ev c) fun v => match v with
      | .bool t => splitB t fun t => match t, c with
        | true, .tmp d => vcC P Γ Y D R x Q { s with t := upd s.t d (.bool true) }
        | false, .tmp d => vcC P Γ Y D R y Q { s with t := upd s.t d (.bool false) }
        | true, _ => vcC P Γ Y D R x Q s
        | false, _ => vcC P Γ Y D R y Q s
      | _ => False := rfl
end
def DOk (P : Program) (T : Option Nat → Cx → Prop) (base : Option Nat) (G : List Value) (ρ : Option Nat) (n : Nat) (D : List Oper → St → (St → Prop) → Prop) : Prop :=
  ∀ (ops : List Oper) (s : St) (k : St → Prop) (c : Cx) (a : Act) (id : Nat) (Q : Exit → Act → World → Prop), D ops s k → Sim T base G s c a → (∀ s' d a', k s' → Sim T base G s' d a' → Q .normal a' d.w) → (Code.region id ops.toArray true).wpIn (Fx ρ) n P Q a c.w
def ROk (P : Program) (T : Option Nat → Cx → Prop) (base : Option Nat) (G : List Value) (ρ : Option Nat) (n : Nat) (R : Operand → Array Tmp → Code → Code → (Exit → St → Prop) → St → Prop) : Prop :=
  ∀ (f : Operand) (ps : Array Tmp) (x y : Code) (s : St) (Q : Exit → St → Prop) (c : Cx) (a : Act) (Q' : Exit → Act → World → Prop), R f ps x y Q s → Sim T base G s c a → (∀ e s' d a', Q e s' → Sim T base G s' d a' → Q' e a' d.w) → (Code.rangeFunc f ps x y).wpIn (Fx ρ) n P Q' a c.w
theorem ops_arr (ops : Array Oper) : ops.toList.toArray = ops := Array.toArray_toList
theorem vcC_sound {P : Program} {Γ : Nat → Option TI} {T : Option Nat → Cx → Prop} {base : Option Nat} {G : List Value} {ρ : Option Nat} {n : Nat} {Y : List AV → St → (AV → St → Prop) → Prop} {D : List Oper → St → (St → Prop) → Prop} {R : Operand → Array Tmp → Code → Code → (Exit → St → Prop) → St → Prop}
    (hT : TyOk P Γ) (hst : Stable T) (hY : YOk P T base G ρ n Y) (hD : DOk P T base G ρ n D) (hR : ROk P T base G ρ n R) : ∀ (x : Code) (s : St) (c : Cx) (a : Act) (Q : Exit → St → Prop) (Q' : Exit → Act → World → Prop), vcC P Γ Y D R x Q s → Sim T base G s c a →
      (∀ e s' d a', Q e s' → Sim T base G s' d a' → Q' e a' d.w) → x.wpIn (Fx ρ) n P Q' a c.w := by
  intro x
  induction x with
  | skip => intro s c a Q Q' h hs hQ; exact wpIn_skip (hQ _ _ _ _ h hs)
  | label l => intro s c a Q Q' h hs hQ; exact wpIn_label (hQ _ _ _ _ h hs)
  | region id ops dr =>
    intro s c a Q Q' h hs hQ
    cases dr with
    | false =>
      refine wpIn_region ?_
      have := vcOps_sound (Q := Q') hT rfl hst hY ops.toList (k := Q .normal) (fun s c a hk hs => hQ _ _ _ _ hk hs) ops.toList [] rfl s c a h hs
      rw [ops_arr] at this
      have e : List.range ops.size = List.range' 0 ops.toList.length := by rw [List.range_eq_range']; simp
      rw [e]
      exact this
    | true =>
      have := hD ops.toList s _ c a id Q' h hs fun s' d a' hk hs => hQ _ _ _ _ hk hs
      rw [ops_arr] at this
      exact this
  | seq x y ihx ihy =>
    intro s c a Q Q' h hs hQ
    refine wpIn_seq (ihx s c a _ _ h hs fun e s' d a' hk hs' => ?_)
    cases e with
    | normal =>
      obtain ⟨s'', hw, hk⟩ := hk
      obtain ⟨d', hd', _, hs''⟩ := hw.2 T base G hst d a' hs'
      show y.wpIn (Fx ρ) n P Q' a' d.w
      rw [← hd']
      exact ihy _ _ _ _ _ hk hs'' hQ
    | exit _ => exact hQ _ _ _ _ hk hs'
    | goto _ => exact hQ _ _ _ _ hk hs'
    | ret => exact hQ _ _ _ _ hk hs'
    | panic _ => exact hQ _ _ _ _ hk hs'
    | outgrown => exact hQ _ _ _ _ hk hs'
  | cond cc x y ihx ihy =>
    intro s c a Q Q' h hs hQ
    rw [vcC_cond, frc_eq] at h
    have hr := hs.eval cc
    split at h
    · rename_i t ht
      rw [ht] at hr
      rw [splitB_eq] at h
      refine wpIn_cond hr.bool_inv ?_
      split at h
      · rename_i d
        exact ihx _ _ _ _ _ h (hs.lit ht) hQ
      · rename_i d
        exact ihy _ _ _ _ _ h (hs.lit ht) hQ
      · exact ihx _ _ _ _ _ h hs hQ
      · exact ihy _ _ _ _ _ h hs hQ
    · exact h.elim
  | block id x ihx =>
    intro s c a Q Q' h hs hQ
    refine wpIn_block (ihx s c a _ _ h hs fun e s' d a' hk hs' => ?_)
    cases e with
    | normal => exact hQ _ _ _ _ hk hs'
    | exit j =>
      simp only [Exit.inBlock]
      by_cases hj : j = id
      · subst hj
        simp only [Nat.beq_refl] at hk
        rw [if_pos rfl]
        exact hQ _ _ _ _ hk hs'
      · have : Nat.beq j id = false := by
          cases hb : Nat.beq j id with
          | false => rfl
          | true => exact absurd (Nat.eq_of_beq_eq_true hb) hj
        simp only [this] at hk
        rw [if_neg hj]
        exact hQ _ _ _ _ hk hs'
    | goto _ => exact hQ _ _ _ _ hk hs'
    | ret => exact hQ _ _ _ _ hk hs'
    | panic _ => exact hQ _ _ _ _ hk hs'
    | outgrown => exact hQ _ _ _ _ hk hs'
  | loop x ihx =>
    intro s c a Q Q' h hs hQ
    obtain ⟨α, p, F, m, ⟨i, hw, hi⟩, hround⟩ := h
    have key : ∀ (N : Nat) (i : α) (c : Cx) (a : Act), m i < N → p i → Sim T base G (F i) c a → Code.roundsIn (Fx ρ) n P x Q' N a c.w := by
      intro N
      induction N with
      | zero => intro i c a h; omega
      | succ N ihN =>
        intro i c a hN hp hs
        rw [roundsIn_succ]
        refine ihx _ _ _ _ _ (hround i hp) hs fun e s' d a' hk hs' => ?_
        cases e with
        | normal =>
          obtain ⟨j, hw, hpj, hm⟩ := hk
          obtain ⟨d', hd', _, hs''⟩ := hw.2 T base G hst d a' hs'
          show Code.roundsIn (Fx ρ) n P x Q' N a' d.w
          rw [← hd']
          exact ihN j d' a' (by omega) hpj hs''
        | exit _ => exact hQ _ _ _ _ hk hs'
        | goto _ => exact hQ _ _ _ _ hk hs'
        | ret => exact hQ _ _ _ _ hk hs'
        | panic _ => exact hQ _ _ _ _ hk hs'
        | outgrown => exact hQ _ _ _ _ hk hs'
    obtain ⟨d, hd, _, hs'⟩ := hw.2 T base G hst c a hs
    rw [← hd]
    exact wpIn_loop_rounds (m i + 1) (key (m i + 1) i d a (by omega) hi hs')
  | rangeFunc f ps x y _ _ => intro s c a Q Q' h hs hQ; exact hR f ps x y s Q c a Q' h hs hQ
  | exit id => intro s c a Q Q' h hs hQ; exact wpIn_exit (hQ _ _ _ _ h hs)
  | ret => intro s c a Q Q' h hs hQ; exact wpIn_ret (hQ _ _ _ _ h hs)
  | scope _ _ => intro s c a Q Q' h; exact h.elim
  | goto _ => intro s c a Q Q' h; exact h.elim
  | refuse _ => intro s c a Q Q' h; exact h.elim

/-- The value of a result. -/
def resOne (Γ : Nat → Option TI) (s : St) : ResultVar → (AV → Prop) → Prop
  | .tmp t, k => frc (s.t t) k
  | .cell t ty, k => match Γ ty with
    | some i => frc (s.t t) fun p => match p with
      | .ptr b 0 q => match s.L b with
        | .box _ cs => ldC i (cs.drop q) k
        | _ => False
      | _ => False
    | none => False
def resAll (Γ : Nat → Option TI) (s : St) : List ResultVar → (List AV → Prop) → Prop
  | [], k => k []
  | r :: l, k => resOne Γ s r fun v => resAll Γ s l fun vs => k (v :: vs)
def resV : List AV → AV
  | [v] => v
  | vs => .tup vs
/-- The body's end is the contract's result. -/
def post (Γ : Nat → Option TI) (rs : List ResultVar) (r : AV) : Exit → St → Prop
  | .normal, s => resAll Γ s rs fun vs => pur s.L (fun _ => true) 8 (resV vs) = r
  | .ret, s => resAll Γ s rs fun vs => pur s.L (fun _ => true) 8 (resV vs) = r
  | _, _ => False
def arg (args : List AV) (i : Nat) : AV := match args[i]? with | some v => v | none => .und
def st0 (args : List AV) (nt : Nat) : St := ⟨arg args, fun _ => .dead, nt, 0, [], none⟩
end Go.Proofs.Ytcfbhojpemjjpaa
