/- Part 3 of the walk that the law rests on: P. -/
import Derived.Test.YtcmciimogcfakaaM2
/- Steps of a walk: what comes behind is kept out of sight. -/
set_option linter.unusedVariables false
set_option linter.unusedSimpArgs false
namespace Go.Proofs.Ytcmciimogcfakaa
open Go Go.RowKit

/-- A slot is put; a slot's value is told by an equal term. -/
def St.put (s : St) (d : Option Nat) (v : AV) : St := { s with t := putT s.t d v }
def St.slot (s : St) (d : Nat) (v : AV) : St := { s with t := upd s.t d v }
theorem slot_lit {s : St} {d : Nat} {v : AV} (h : s.t d = v) : s.slot d v = s := st_lit h
section
variable (P : Program) (Γ : Nat → Option TI) (Y : List AV → St → (AV → St → Prop) → Prop) (D : List Oper → St → (St → Prop) → Prop) (R : Operand → Array Tmp → Code → Code → (Exit → St → Prop) → St → Prop)
inductive KSeq (y : Code) (Q : Exit → St → Prop) : Exit → St → Prop
  | mk {e : Exit} {s : St} (h : match e with | .normal => ∃ s', Wk s s' ∧ vcC P Γ Y D R y Q s' | e => Q e s) : KSeq y Q e s
structure g3 (all : List Oper) (τ : List Nat) (l : List Oper) (i : Nat) (s : St) (k : St → Prop) : Prop where
  out : vcD3 P Γ all τ l i s k
structure gT (all : List Oper) (τ r : List Nat) (c : Nat) (s : St) (k : St → Prop) : Prop where
  out : vcT P Γ all τ r c s k
structure gR (all : List Oper) (s : St) (l : List Oper) : Prop where
  out : reG P Γ all s l
inductive KT (all : List Oper) (τ : List Nat) (k : St → Prop) : St → Prop
  | mk {s : St} (h : vcT P Γ all τ τ 0 s k) : KT all τ k s
/-- As Q; the walk stops there. -/
inductive KJ (Q : Exit → St → Prop) : Exit → St → Prop
  | mk {e : Exit} {s : St} (h : Q e s) : KJ Q e s
inductive KBlk (id : Nat) (Q : Exit → St → Prop) : Exit → St → Prop
  | mk {e : Exit} {s : St} (h : match e with | .exit j => (match Nat.beq j id with | true => Q .normal s | false => Q (.exit j) s) | e => Q e s) : KBlk id Q e s
/-- A scope's end: as Q, no goto. -/
inductive KSc (Q : Exit → St → Prop) : Exit → St → Prop
  | mk {e : Exit} {s : St} (h : match e with | .goto _ => False | e => Q e s) : KSc Q e s
inductive KLoop {α : Type} (p : α → Prop) (F : α → St) (m : α → Nat) (i : α) (Q : Exit → St → Prop) : Exit → St → Prop
  | mk {e : Exit} {s : St} (h : match e with | .normal => ∃ j, Wk s (F j) ∧ p j ∧ m j < m i | e => Q e s) : KLoop p F m i Q e s
inductive KOps (all l : List Oper) (dst : Option Nat) (s : St) (k : St → Prop) : Eff → Prop
  | mk {e : Eff} (h : vcOps P Γ 0 Y all l (s.ap dst e) k) : KOps all l dst s k e
inductive KY (all l : List Oper) (dst : Option Nat) (k : St → Prop) : AV → St → Prop
  | mk {v : AV} {s : St} (h : vcOps P Γ 0 Y all l { s with t := putT s.t dst v } k) : KY all l dst k v s
/-- As vcC, vcOps; seen through by the steps alone. -/
structure gC (x : Code) (Q : Exit → St → Prop) (s : St) : Prop where
  out : vcC P Γ Y D R x Q s
structure gO (all l : List Oper) (s : St) (k : St → Prop) : Prop where
  out : vcOps P Γ 0 Y all l s k
structure gD (all l : List Oper) (s : St) (k : St → Prop) : Prop where
  out : vcD1 P Γ all l s k
structure gQ (Q : Exit → St → Prop) (e : Exit) (s : St) : Prop where
  out : Q e s
end
section
variable {P : Program} {Γ : Nat → Option TI} {Y : List AV → St → (AV → St → Prop) → Prop} {D : List Oper → St → (St → Prop) → Prop} {R : Operand → Array Tmp → Code → Code → (Exit → St → Prop) → St → Prop} {Q : Exit → St → Prop} {s : St} {x y : Code} {k : St → Prop} {all l : List Oper} {o : Oper}
theorem gC_in (h : gC P Γ Y D R x Q s) : vcC P Γ Y D R x Q s := h.out
theorem vcC_mono {x : Code} {Q Q' : Exit → St → Prop} (hq : Q = Q') {s : St} (h : vcC P Γ Y D R x Q s) : vcC P Γ Y D R x Q' s := hq ▸ h
theorem kSeq_eq : KSeq P Γ Y D R y Q = fun e s => match e with | .normal => ∃ s', Wk s s' ∧ vcC P Γ Y D R y Q s' | e => Q e s := by
  funext e s
  exact propext ⟨fun h => by cases h with | mk h => exact h, fun h => .mk h⟩
theorem kBlk_eq {id : Nat} : KBlk id Q = fun e s => match e with | .exit j => (match Nat.beq j id with | true => Q .normal s | false => Q (.exit j) s) | e => Q e s := by
  funext e s
  exact propext ⟨fun h => by cases h with | mk h => exact h, fun h => .mk h⟩
theorem kSc_eq : KSc Q = fun e s => match e with | .goto _ => False | e => Q e s := by
  funext e s
  exact propext ⟨fun h => by cases h with | mk h => exact h, fun h => .mk h⟩
theorem kLoop_eq {α : Type} {p : α → Prop} {F : α → St} {m : α → Nat} {i : α} : KLoop p F m i Q = fun e s => match e with | .normal => ∃ j, Wk s (F j) ∧ p j ∧ m j < m i | e => Q e s := by
  funext e s
  exact propext ⟨fun h => by cases h with | mk h => exact h, fun h => .mk h⟩
/-- The operation turns no memory; a call may. -/
def calmB (o : Oper) : Bool := match o.op with
  | .alloc .. => false
  | .box .. => false
  | .store .. => false
  | .makeSlice .. => false
  | .buildSlice .. => false
  | .makeMap .. => false
  | .mapUpdate .. => false
  | .call c => match c.callee with
    | .builtin .append => false
    | .builtin .delete => false
    | .builtin .clear => false
    | _ => true
  | _ => true
theorem kOps_eq {dst : Option Nat} : KOps P Γ Y all l dst s k = fun e => vcOps P Γ 0 Y all l (s.ap dst e) k := by
  funext e
  exact propext ⟨fun h => by cases h with | mk h => exact h, fun h => .mk h⟩
theorem kY_eq {dst : Option Nat} : KY P Γ Y all l dst k = fun v s => vcOps P Γ 0 Y all l { s with t := putT s.t dst v } k := by
  funext v s
  exact propext ⟨fun h => by cases h with | mk h => exact h, fun h => .mk h⟩
theorem gQ_eq : gQ Q = Q := by
  funext e s
  exact propext ⟨fun h => h.out, fun h => ⟨h⟩⟩
theorem sSeq (h : gC P Γ Y D R x (KSeq P Γ Y D R y Q) s) : gC P Γ Y D R (.seq x y) Q s := by
  have h := h.out
  rw [kSeq_eq] at h
  exact ⟨h⟩
/-- What comes behind is walked once, for a family of states. -/
theorem sJoin {α : Type} (p : α → Prop) (F : α → St) (hy : ∀ j, p j → gC P Γ Y D R y Q (F j)) (h : (∀ j, p j → gC P Γ Y D R y Q (F j)) → gC P Γ Y D R x (KJ (KSeq P Γ Y D R y Q)) s) : gC P Γ Y D R x (KSeq P Γ Y D R y Q) s := by
  have h := (h hy).out
  rw [show KJ (KSeq P Γ Y D R y Q) = KSeq P Γ Y D R y Q from funext fun e => funext fun s => propext ⟨fun h => by cases h with | mk h => exact h, fun h => .mk h⟩] at h
  exact ⟨h⟩
theorem bJoin {α : Type} {id : Nat} (p : α → Prop) (F : α → St) (hy : ∀ j, p j → gC P Γ Y D R y Q (F j)) (h : (∀ j, p j → gC P Γ Y D R y Q (F j)) → gC P Γ Y D R x (KBlk id (KJ (KSeq P Γ Y D R y Q))) s) : gC P Γ Y D R x (KBlk id (KSeq P Γ Y D R y Q)) s := by
  have h := (h hy).out
  rw [show KJ (KSeq P Γ Y D R y Q) = KSeq P Γ Y D R y Q from funext fun e => funext fun s => propext ⟨fun h => by cases h with | mk h => exact h, fun h => .mk h⟩] at h
  exact ⟨h⟩
theorem sSkip (h : gQ Q .normal s) : gC P Γ Y D R .skip Q s := ⟨h.out⟩
theorem sRet (h : gQ Q .ret s) : gC P Γ Y D R .ret Q s := ⟨h.out⟩
theorem sExit {id : Nat} (h : gQ Q (.exit id) s) : gC P Γ Y D R (.exit id) Q s := ⟨h.out⟩
theorem sLabel {id : Nat} (h : gQ Q .normal s) : gC P Γ Y D R (.label id) Q s := ⟨h.out⟩
theorem sReg {id : Nat} {ops : Array Oper} {ol : List Oper} (ho : ops.toList = ol) (h : gO P Γ Y ol ol s (gQ Q .normal)) : gC P Γ Y D R (.region id ops false) Q s := by
  subst ho
  have h := h.out
  rw [gQ_eq] at h
  exact ⟨h⟩
theorem sDraw {id : Nat} {ops : Array Oper} (h : D ops.toList s (gQ Q .normal)) : gC P Γ Y D R (.region id ops true) Q s := by
  rw [gQ_eq] at h
  exact ⟨h⟩
theorem sBlk {id : Nat} (h : gC P Γ Y D R x (KBlk id Q) s) : gC P Γ Y D R (.block id x) Q s := by
  have h := h.out
  rw [kBlk_eq] at h
  exact ⟨h⟩
theorem sScope (h : gC P Γ Y D R x (KSc Q) s) : gC P Γ Y D R (.scope x) Q s := by
  have h := h.out
  rw [kSc_eq] at h
  exact ⟨h⟩
theorem sCT {d : Nat} (hd : s.t d = .bool true) (h : gC P Γ Y D R x Q s) : gC P Γ Y D R (.cond (.tmp d) x y) Q s := by
  refine ⟨?_⟩
  have h := h.out
  rw [vcC_cond, frc_eq]
  simp only [St.ev, hd]
  refine splitB_t ?_
  simp only []
  rw [show ({ s with t := upd s.t d (.bool true) } : St) = s from st_lit hd]
  exact h
theorem sCF {d : Nat} (hd : s.t d = .bool false) (h : gC P Γ Y D R y Q s) : gC P Γ Y D R (.cond (.tmp d) x y) Q s := by
  refine ⟨?_⟩
  have h := h.out
  rw [vcC_cond, frc_eq]
  simp only [St.ev, hd]
  refine splitB_f ?_
  simp only []
  rw [show ({ s with t := upd s.t d (.bool false) } : St) = s from st_lit hd]
  exact h
theorem sC {d : Nat} {b : Bool} (hd : s.t d = .bool b) (h1 : b = true → gC P Γ Y D R x Q (s.slot d (.bool true))) (h2 : b = false → gC P Γ Y D R y Q (s.slot d (.bool false))) : gC P Γ Y D R (.cond (.tmp d) x y) Q s := by
  cases b with
  | true => refine sCT hd ?_; have := h1 rfl; rw [slot_lit hd] at this; exact this
  | false => refine sCF hd ?_; have := h2 rfl; rw [slot_lit hd] at this; exact this
theorem sLoop {α : Type} (p : α → Prop) (F : α → St) (m : α → Nat) (i : α) (hw : Wk s (F i)) (hp : p i) (h : ∀ i, p i → gC P Γ Y D R x (KLoop p F m i Q) (F i)) : gC P Γ Y D R (.loop x) Q s :=
  ⟨⟨α, p, F, m, ⟨i, hw, hp⟩, fun i hi => by have h := (h i hi).out; rw [kLoop_eq] at h; exact h⟩⟩
theorem sFor {f : Operand} {ps : Array Tmp} (h : R f ps x y (gQ Q) s) : gC P Γ Y D R (.rangeFunc f ps x y) Q s := by
  rw [gQ_eq] at h
  exact ⟨h⟩
theorem qSeqN (h : gC P Γ Y D R y Q s) : gQ (KSeq P Γ Y D R y Q) .normal s := ⟨.mk ⟨s, .refl s, h.out⟩⟩
/-- The state is told anew. -/
theorem qSeqW {s' : St} (hw : Wk s s') (h : gC P Γ Y D R y Q s') : gQ (KSeq P Γ Y D R y Q) .normal s := ⟨.mk ⟨s', hw, h.out⟩⟩
theorem qJoin {s' : St} (hw : Wk s s') (h : gC P Γ Y D R y Q s') : gQ (KJ (KSeq P Γ Y D R y Q)) .normal s := ⟨.mk (qSeqW hw h).out⟩
theorem qJE {j : Nat} (h : gQ Q (.exit j) s) : gQ (KJ Q) (.exit j) s := ⟨.mk h.out⟩
theorem qJR (h : gQ Q .ret s) : gQ (KJ Q) .ret s := ⟨.mk h.out⟩
theorem qSeqE {j : Nat} (h : gQ Q (.exit j) s) : gQ (KSeq P Γ Y D R y Q) (.exit j) s := ⟨.mk h.out⟩
theorem qSeqR (h : gQ Q .ret s) : gQ (KSeq P Γ Y D R y Q) .ret s := ⟨.mk h.out⟩
theorem qScN (h : gQ Q .normal s) : gQ (KSc Q) .normal s := ⟨.mk h.out⟩
theorem qScR (h : gQ Q .ret s) : gQ (KSc Q) .ret s := ⟨.mk h.out⟩
theorem qScE {j : Nat} (h : gQ Q (.exit j) s) : gQ (KSc Q) (.exit j) s := ⟨.mk h.out⟩
theorem qBlkN {id : Nat} (h : gQ Q .normal s) : gQ (KBlk id Q) .normal s := ⟨.mk h.out⟩
theorem qBlkR {id : Nat} (h : gQ Q .ret s) : gQ (KBlk id Q) .ret s := ⟨.mk h.out⟩
theorem qBlkX {id j : Nat} (hj : Nat.beq j id = true) (h : gQ Q .normal s) : gQ (KBlk id Q) (.exit j) s := ⟨.mk (by simp only [hj]; exact h.out)⟩
theorem qBlkE {id j : Nat} (hj : Nat.beq j id = false) (h : gQ Q (.exit j) s) : gQ (KBlk id Q) (.exit j) s := ⟨.mk (by simp only [hj]; exact h.out)⟩
theorem qLoopN {α : Type} {p : α → Prop} {F : α → St} {m : α → Nat} {i : α} (j : α) (hw : Wk s (F j)) (hp : p j) (hm : m j < m i) : gQ (KLoop p F m i Q) .normal s := ⟨.mk ⟨j, hw, hp, hm⟩⟩
theorem qLoopE {α : Type} {p : α → Prop} {F : α → St} {m : α → Nat} {i : α} {j : Nat} (h : gQ Q (.exit j) s) : gQ (KLoop p F m i Q) (.exit j) s := ⟨.mk h.out⟩
theorem qLoopR {α : Type} {p : α → Prop} {F : α → St} {m : α → Nat} {i : α} (h : gQ Q .ret s) : gQ (KLoop p F m i Q) .ret s := ⟨.mk h.out⟩
theorem qEnd {rs : List ResultVar} {r : AV} (h : resAll Γ s rs fun vs => pur s.L (fun _ => true) 8 (resV vs) = r) : gQ (post Γ rs r) .ret s := ⟨h⟩
theorem qEndN {rs : List ResultVar} {r : AV} (h : resAll Γ s rs fun vs => pur s.L (fun _ => true) 8 (resV vs) = r) : gQ (post Γ rs r) .normal s := ⟨h⟩
theorem qEndR {rs : List ResultVar} {ty sz : Nat} {xs : List (List AV)} (h : rowEnd Γ rs ty sz xs s) : gQ (postR Γ rs ty sz xs) .ret s := ⟨h⟩
theorem pins_kA (K : List Nat) (es : List Ent) (hK : ∀ i, i < es.length → memB K i = true) : (pins es).map (kA K) = pins es := by
  unfold pins
  rw [List.map_map]
  refine List.map_congr_left fun p hp => ?_
  have hlt : p.2 < es.length := by
    obtain ⟨e, i⟩ := p
    have := List.mem_zipIdx hp
    simp at this
    omega
  show kA K (.gst p.2 p.1) = .gst p.2 p.1
  unfold kA
  simp [trav, gKeep, hK _ hlt]
theorem efEnd_of {rs : List ResultVar} {r : AV} {L1 : List Blk} {es : List Ent} (ts : List (Nat × AV)) (bs : List (Nat × Blk)) (hb : allP (fun p => (s.L p.1).map' (kA (bs.map (·.1))) = p.2) bs) (ht : allP (fun p => kA (bs.map (·.1)) (s.t p.1) = p.2) ts)
    (hal : bs.all (fun p => p.2.alive) = true) (hg : s.g = pins es) (hL : Ll bs = lk L1) (hK : ∀ i, i < es.length → memB (bs.map (·.1)) i = true) (hr : resAll Γ ⟨tl ts, Ll bs, s.nt, 0, pins es, s.y⟩ rs fun vs => resV vs = r) : efEnd Γ rs r L1 (pins es) s :=
  ⟨_, .keep ts bs (pins es) 0 hb ht hal (by rw [hg]; exact pins_kA _ es hK), hL, rfl, hr⟩
theorem qEndE {rs : List ResultVar} {r : AV} {L1 : List Blk} {g : List AV} (h : efEnd Γ rs r L1 g s) : gQ (postE Γ rs r L1 g) .ret s := ⟨h⟩
theorem qEndEN {rs : List ResultVar} {r : AV} {L1 : List Blk} {g : List AV} (h : efEnd Γ rs r L1 g s) : gQ (postE Γ rs r L1 g) .normal s := ⟨h⟩
theorem oNil (h : k s) : gO P Γ Y all [] s k := ⟨h⟩
def notV : Op → Bool
  | .call c => match c.callee with | .value _ => false | _ => true
  | _ => true
def Goes (all : List Oper) (o : Oper) (s : St) : Prop := o.guard = none ∨ ∃ j w d, o.guard = some (j, w) ∧ dstIn all j = some d ∧ s.t d = .bool w
theorem goes_eq (h : Goes all o s) (run skip : St → Prop) : vcG (dstIn all) o s run skip = run s := by
  rcases h with h | ⟨j, w, d, hg, hd, ht⟩
  · simp only [vcG, h]
  · simp only [vcG, hg, hd, frc_eq, ht, splitB_eq]
    cases w with
    | true => simp only []; rw [show ({ s with t := upd s.t d (.bool true) } : St) = s from st_lit ht]
    | false => simp only []; rw [show ({ s with t := upd s.t d (.bool false) } : St) = s from st_lit ht]
theorem oRun (hd : dstOk s.nt o.dst = true) (hg : Goes all o s) (hv : notV o.op = true) (h : vcE P Γ 0 o s.ev s.L s.nx (KOps P Γ Y all l o.dst s k)) : gO P Γ Y all (o :: l) s k := by
  refine ⟨?_⟩
  rw [kOps_eq] at h
  rw [vcOps_cons]
  simp only [hd, goes_eq hg]
  split
  · rename_i c hc
    split
    · rename_i f hf
      rw [hc] at hv
      simp [notV, hf] at hv
    · exact h
  · exact h
theorem oCall {c : Call} {f : Operand} {g : FuncId} {caps : List AV} (hd : dstOk s.nt o.dst = true) (hg : Goes all o s) (ho : o.op = .call c) (hc : c.callee = .value f) (hf : s.ev f = .fn g caps) (m : Mode) {as : List AV} (has : c.args.toList.map s.ev ++ caps = as) (h : callM P g as s.L 0 s.nx (KOps P Γ Y all l o.dst s k) m) : gO P Γ Y all (o :: l) s k := by
  refine ⟨?_⟩
  rw [kOps_eq] at h
  subst has
  rw [vcOps_cons]
  simp only [hd, goes_eq hg, ho, hc, frc_eq, hf]
  simp only [vcE, ho, hc, frc_eq, frcL_eq, hf]
  exact ⟨m, h⟩
/-- A call of yield. -/
theorem oYield {c : Call} {f : Operand} (hd : dstOk s.nt o.dst = true) (hg : Goes all o s) (ho : o.op = .call c) (hc : c.callee = .value f) (hf : s.ev f = .yld) {as : List AV} (has : c.args.toList.map s.ev = as) (h : Y as s (KY P Γ Y all l o.dst k)) : gO P Γ Y all (o :: l) s k := by
  refine ⟨?_⟩
  rw [kY_eq] at h
  subst has
  rw [vcOps_cons]
  simp only [hd, goes_eq hg, ho, hc, frc_eq, frcL_eq, hf]
  exact h
theorem kY {dst : Option Nat} {v : AV} (h : gO P Γ Y all l (s.put dst v) k) : KY P Γ Y all l dst k v s := .mk h.out
theorem oF {j d : Nat} {w : Bool} (hdo : dstOk s.nt o.dst = true) (hg : o.guard = some (j, w)) (hd : dstIn all j = some d) (ht : s.t d = .bool (!w)) (h : gO P Γ Y all l (s.skip o.dst) k) : gO P Γ Y all (o :: l) s k := by
  refine ⟨?_⟩
  have h := h.out
  rw [vcOps_cons]
  simp only [hdo, vcG, hg, hd, frc_eq, ht]
  cases w with
  | true => simp only [Bool.not_true, splitB_eq]; rw [show ({ s with t := upd s.t d (.bool false) } : St) = s from st_lit ht]; exact h
  | false => simp only [Bool.not_false, splitB_eq]; rw [show ({ s with t := upd s.t d (.bool true) } : St) = s from st_lit ht]; exact h
theorem oU {j d : Nat} {w : Bool} (hdo : dstOk s.nt o.dst = true) (hg : o.guard = some (j, w)) (hd : dstIn all j = some d) (ht : s.t d = .und) (h : gO P Γ Y all l (s.skip o.dst) k) : gO P Γ Y all (o :: l) s k := by
  refine ⟨?_⟩
  have h := h.out
  rw [vcOps_cons]
  simp only [hdo, vcG, hg, hd, frc_eq, ht]
  exact h
/-- The truth value that a guard asks for is not known: two cases. -/
theorem oS {j d : Nat} {w b : Bool} (hg : o.guard = some (j, w)) (hd : dstIn all j = some d) (ht : s.t d = .bool b) (h1 : b = true → gO P Γ Y all (o :: l) (s.slot d (.bool true)) k) (h2 : b = false → gO P Γ Y all (o :: l) (s.slot d (.bool false)) k) : gO P Γ Y all (o :: l) s k := by
  cases b with
  | true => have := h1 rfl; rw [slot_lit ht] at this; exact this
  | false => have := h2 rfl; rw [slot_lit ht] at this; exact this
theorem kOps {dst : Option Nat} {e : Eff} (h : gO P Γ Y all l (s.ap dst e) k) : KOps P Γ Y all l dst s k e := .mk h.out
theorem sB {b : Bool} {K : Bool → Prop} (ht : b = true → K true) (hf : b = false → K false) : splitB b K := splitB_intro ht hf
/-- What a round's assignments hand on to its body. -/
inductive KAs (P : Program) (Γ : Nat → Option TI) (D : List Oper → St → (St → Prop) → Prop) (body : Code) (Q : Exit → St → Prop) (nt : Nat) (F : St) (I : Prop) : Exit → St → Prop
  | mk {s : St} (h : gC P Γ noY D noR body (rnd Q nt F I) s) : KAs P Γ D body Q nt F I .normal s
theorem kAs_eq {body : Code} {nt : Nat} {F : St} {I : Prop} : KAs P Γ D body Q nt F I = fun e s1 => match e with | .normal => vcC P Γ noY D noR body (rnd Q nt F I) s1 | _ => False := by
  funext e s
  refine propext ⟨fun h => ?_, fun h => ?_⟩
  · cases h with
    | mk h => exact h.out
  · cases e <;> first | exact .mk ⟨h⟩ | exact h.elim
theorem qAs {body : Code} {nt : Nat} {F : St} {I : Prop} (h : gC P Γ noY D noR body (rnd Q nt F I) s) : gQ (KAs P Γ D body Q nt F I) .normal s := ⟨.mk h⟩
theorem forIn {f : Operand} {ps : Array Tmp} {g : FuncId} {caps : List AV} (hf : s.ev f = .fn g caps) (hp : caps.all AV.pureC = true) {items : List (List AV)} (hIT : IT P g caps items) (F : Nat → St) (I : Nat → Prop) (hw : Wk s (F 0)) (h0 : I 0)
    (hr : ∀ i z, I i → items[i]? = some z → psOk s.nt ps.toList z = true ∧ (F i).nt = s.nt ∧ gC P Γ noY D noR x (KAs P Γ D y (gQ Q) s.nt (F (i + 1)) (I (i + 1))) (roundSt (F i) ps.toList z)) (hq : I items.length → gQ Q .normal (F items.length)) : gC P Γ Y D (vcRF P Γ D) (.rangeFunc f ps x y) Q s := by
  refine sFor ?_
  unfold vcRF
  rw [frc_eq, hf]
  refine ⟨hp, items, hIT, F, I, hw, h0, fun i z hi hz => ?_, hq⟩
  obtain ⟨h1, h2, h3⟩ := hr i z hi hz
  refine ⟨h1, h2, ?_⟩
  have h3 := h3.out
  rw [kAs_eq] at h3
  exact h3
theorem qRndN {nt : Nat} {F : St} {I : Prop} (h : Wk (back nt s) F) (hi : I) : gQ (rnd (gQ Q) nt F I) .normal s := ⟨⟨h, hi⟩⟩
theorem qRndE {nt j : Nat} {F : St} {I : Prop} (h : gQ Q (.exit j) (back nt s)) : gQ (rnd (gQ Q) nt F I) (.exit j) s := ⟨h⟩
theorem qRndR {nt : Nat} {F : St} {I : Prop} (h : gQ Q .ret (back nt s)) : gQ (rnd (gQ Q) nt F I) .ret s := ⟨h⟩
/-- What an operation yields, where the order is drawn. -/
inductive KPl (v : AV) : Eff → Prop
  | mk {e : Eff} (h : plainE e v) : KPl v e
theorem kPl_eq {v : AV} : KPl v = fun e => plainE e v := by
  funext e
  exact propext ⟨fun h => by cases h with | mk h => exact h, fun h => .mk h⟩
theorem sDr {id : Nat} {ops : Array Oper} {ol : List Oper} (ho : ops.toList = ol) (hb : (backB ol && drawOk ol) = true) (h : gD P Γ ol ol s (gQ Q .normal)) : gC P Γ Y (vcDr P Γ) R (.region id ops true) Q s := by
  subst ho
  exact sDraw (.inl ⟨hb, h.out⟩)
theorem drNil (h : k s) : gD P Γ all [] s k := ⟨h⟩
theorem drRun {v : AV} (hd : dstOk s.nt o.dst = true) (hg : Goes all o s) (h : vcE P Γ 0 o s.ev s.L s.nx (KPl v)) (h2 : gD P Γ all l (s.put o.dst v) k) : gD P Γ all (o :: l) s k := by
  refine ⟨?_⟩
  rw [kPl_eq] at h
  rw [vcD1_cons]
  simp only [hd, goes_eq hg]
  exact ⟨v, h, h2.out⟩
theorem drCall {v : AV} {c : Call} {f : Operand} {g : FuncId} {caps : List AV} (hd : dstOk s.nt o.dst = true) (hg : Goes all o s) (ho : o.op = .call c) (hc : c.callee = .value f) (hf : s.ev f = .fn g caps) (m : Mode) {as : List AV} (has : c.args.toList.map s.ev ++ caps = as) (h : callM P g as s.L 0 s.nx (KPl v) m) (h2 : gD P Γ all l (s.put o.dst v) k) : gD P Γ all (o :: l) s k := by
  refine drRun hd hg ?_ h2
  subst has
  simp only [vcE, ho, hc, frc_eq, frcL_eq, hf]
  exact ⟨m, h⟩
theorem drF {j d : Nat} {w : Bool} (hdo : dstOk s.nt o.dst = true) (hg : o.guard = some (j, w)) (hd : dstIn all j = some d) (ht : s.t d = .bool (!w)) (h : gD P Γ all l (s.skip o.dst) k) : gD P Γ all (o :: l) s k := by
  refine ⟨?_⟩
  have h := h.out
  rw [vcD1_cons]
  simp only [hdo, vcG, hg, hd, frc_eq, ht]
  cases w with
  | true => simp only [Bool.not_true, splitB_eq]; rw [show ({ s with t := upd s.t d (.bool false) } : St) = s from st_lit ht]; exact h
  | false => simp only [Bool.not_false, splitB_eq]; rw [show ({ s with t := upd s.t d (.bool true) } : St) = s from st_lit ht]; exact h
theorem drU {j d : Nat} {w : Bool} (hdo : dstOk s.nt o.dst = true) (hg : o.guard = some (j, w)) (hd : dstIn all j = some d) (ht : s.t d = .und) (h : gD P Γ all l (s.skip o.dst) k) : gD P Γ all (o :: l) s k := by
  refine ⟨?_⟩
  have h := h.out
  rw [vcD1_cons]
  simp only [hdo, vcG, hg, hd, frc_eq, ht]
  exact h
theorem drS {j d : Nat} {w b : Bool} (hg : o.guard = some (j, w)) (hd : dstIn all j = some d) (ht : s.t d = .bool b) (h1 : b = true → gD P Γ all (o :: l) (s.slot d (.bool true)) k) (h2 : b = false → gD P Γ all (o :: l) (s.slot d (.bool false)) k) : gD P Γ all (o :: l) s k := by
  cases b with
  | true => have := h1 rfl; rw [slot_lit ht] at this; exact this
  | false => have := h2 rfl; rw [slot_lit ht] at this; exact this
inductive KEq (E : Eff) : Eff → Prop
  | mk {e : Eff} (h : e = E) : KEq E e
theorem kEq_eq {E : Eff} : KEq E = fun e => e = E := by
  funext e
  exact propext ⟨fun h => by cases h with | mk h => exact h, fun h => .mk h⟩
theorem kT_eq {τ : List Nat} : KT P Γ all τ k = fun s => vcT P Γ all τ τ 0 s k := by
  funext s
  exact propext ⟨fun h => by cases h with | mk h => exact h, fun h => .mk h⟩
/-- A region that draws its order: the operations of τ come one behind the other. -/
theorem sDt {id : Nat} {ops : Array Oper} {ol : List Oper} (τ : List Nat) (h : g3 P Γ ol τ ol 0 s (KT P Γ ol τ (gQ Q .normal))) (ho : ops.toList = ol := by exact rfl) (hb : checkT ol τ = true := by decide +kernel) : gC P Γ Y (vcDr P Γ) R (.region id ops true) Q s := by
  subst ho
  have h := h.out
  rw [kT_eq] at h
  exact sDraw (.inr ⟨τ, hb, h⟩)
theorem kT {τ : List Nat} (h : gT P Γ all τ τ 0 s k) : KT P Γ all τ k s := .mk h.out
theorem g3nil {τ : List Nat} {i : Nat} (h : k s) : g3 P Γ all τ [] i s k := ⟨h⟩
theorem g3skip {τ : List Nat} {i : Nat} (h : g3 P Γ all τ l (i + 1) s k) (hm : memB τ i = true := by exact rfl) : g3 P Γ all τ (o :: l) i s k := by
  refine ⟨?_⟩
  rw [vcD3_cons]
  simp only [hm]
  exact h.out
theorem g3run {τ : List Nat} {i : Nat} {v : AV} (hm : memB τ i = false) (hd : dstOk s.nt o.dst = true) (hg : Goes all o s) (h : vcE P Γ 0 o s.ev s.L s.nx (KPl v)) (h2 : g3 P Γ all τ l (i + 1) (s.put o.dst v) k) : g3 P Γ all τ (o :: l) i s k := by
  refine ⟨?_⟩
  rw [kPl_eq] at h
  rw [vcD3_cons]
  simp only [hm, hd, goes_eq hg]
  exact ⟨v, h, h2.out⟩
theorem g3F {τ : List Nat} {i j d : Nat} {w : Bool} (h : g3 P Γ all τ l (i + 1) (s.skip o.dst) k) (hm : memB τ i = false := by exact rfl) (hdo : dstOk s.nt o.dst = true := by exact rfl) (hg : o.guard = some (j, w) := by exact rfl) (hd : dstIn all j = some d := by exact rfl) (ht : s.t d = .bool (!w) := by exact rfl) : g3 P Γ all τ (o :: l) i s k := by
  refine ⟨?_⟩
  have h := h.out
  rw [vcD3_cons]
  simp only [hm, hdo, vcG, hg, hd, frc_eq, ht]
  cases w with
  | true => simp only [Bool.not_true, splitB_eq]; rw [show ({ s with t := upd s.t d (.bool false) } : St) = s from st_lit ht]; exact h
  | false => simp only [Bool.not_false, splitB_eq]; rw [show ({ s with t := upd s.t d (.bool true) } : St) = s from st_lit ht]; exact h
theorem g3U {τ : List Nat} {i j d : Nat} {w : Bool} (h : g3 P Γ all τ l (i + 1) (s.skip o.dst) k) (hm : memB τ i = false := by exact rfl) (hdo : dstOk s.nt o.dst = true := by exact rfl) (hg : o.guard = some (j, w) := by exact rfl) (hd : dstIn all j = some d := by exact rfl) (ht : s.t d = .und := by exact rfl) : g3 P Γ all τ (o :: l) i s k := by
  refine ⟨?_⟩
  have h := h.out
  rw [vcD3_cons]
  simp only [hm, hdo, vcG, hg, hd, frc_eq, ht]
  exact h
theorem gTnil {τ : List Nat} {c : Nat} (h : k s) : gT P Γ all τ [] c s k := ⟨h⟩
theorem gTrun {τ r : List Nat} {c m : Nat} {E : Eff} (ho : all[m]? = some o) (hg : o.guard = none) (hd : dstOk s.nt o.dst = true) (h : vcE P Γ 0 o s.ev s.L s.nx (KEq E)) (hre : gR P Γ all (s.ap o.dst E) (lateB all τ (c + 1))) (h2 : gT P Γ all τ r (c + 1) (s.ap o.dst E) k) : gT P Γ all τ (m :: r) c s k := by
  refine ⟨?_⟩
  rw [kEq_eq] at h
  rw [vcT_cons]
  simp only [ho, hg, hd]
  exact ⟨E, h, hre.out, h2.out⟩
theorem gRnil : gR P Γ all s [] := ⟨trivial⟩
theorem gRcons {d : Nat} (hd : o.dst = some d) (hdo : dstOk s.nt o.dst = true) (hg : o.guard = none) (h : vcE P Γ 0 o s.ev s.L s.nx (KPl (s.t d))) (h2 : gR P Γ all s l) : gR P Γ all s (o :: l) := by
  refine ⟨?_, h2.out⟩
  rw [kPl_eq] at h
  simp only [hd]
  refine ⟨hdo, ?_⟩
  simp only [hg]
  exact h
theorem gRg {d j d' : Nat} {w : Bool} (hd : o.dst = some d) (hdo : dstOk s.nt o.dst = true) (hg : o.guard = some (j, w)) (hj : dstIn all j = some d') (ht : s.t d' = .bool w) (h : vcE P Γ 0 o s.ev s.L s.nx (KPl (s.t d))) (h2 : gR P Γ all s l) : gR P Γ all s (o :: l) := by
  refine ⟨?_, h2.out⟩
  rw [kPl_eq] at h
  simp only [hd]
  refine ⟨hdo, ?_⟩
  simp only [hg]
  exact ⟨d', hj, .inl ⟨ht, h⟩⟩
theorem gRf {d j d' : Nat} {w : Bool} (h2 : gR P Γ all s l) (hd : o.dst = some d := by exact rfl) (hdo : dstOk s.nt o.dst = true := by exact rfl) (hg : o.guard = some (j, w) := by exact rfl) (hj : dstIn all j = some d' := by exact rfl) (ht : s.t d' = .bool (!w) := by exact rfl) (hu : s.t d = .und := by exact rfl) : gR P Γ all s (o :: l) := by
  refine ⟨?_, h2.out⟩
  simp only [hd]
  refine ⟨hdo, ?_⟩
  simp only [hg]
  exact ⟨d', hj, .inr (.inl ⟨ht, hu⟩)⟩
theorem gRu {d j d' : Nat} {w : Bool} (h2 : gR P Γ all s l) (hd : o.dst = some d := by exact rfl) (hdo : dstOk s.nt o.dst = true := by exact rfl) (hg : o.guard = some (j, w) := by exact rfl) (hj : dstIn all j = some d' := by exact rfl) (ht : s.t d' = .und := by exact rfl) (hu : s.t d = .und := by exact rfl) : gR P Γ all s (o :: l) := by
  refine ⟨?_, h2.out⟩
  simp only [hd]
  refine ⟨hdo, ?_⟩
  simp only [hg]
  exact ⟨d', hj, .inr (.inr ⟨ht, hu⟩)⟩
-- The same, their conditions met by reckoning.
theorem oR (h : vcE P Γ 0 o s.ev s.L s.nx (KOps P Γ Y all l o.dst s k)) (hd : dstOk s.nt o.dst = true := by exact rfl) (hg : o.guard = none := by exact rfl) (hv : notV o.op = true := by exact rfl) : gO P Γ Y all (o :: l) s k := oRun hd (.inl hg) hv h
theorem oG {j d : Nat} {w : Bool} (h : vcE P Γ 0 o s.ev s.L s.nx (KOps P Γ Y all l o.dst s k)) (hd : dstOk s.nt o.dst = true := by exact rfl) (hg : o.guard = some (j, w) := by exact rfl) (hj : dstIn all j = some d := by exact rfl) (ht : s.t d = .bool w := by exact rfl) (hv : notV o.op = true := by exact rfl) : gO P Γ Y all (o :: l) s k := oRun hd (.inr ⟨j, w, d, hg, hj, ht⟩) hv h
theorem oH {j d : Nat} {w : Bool} (h : gO P Γ Y all l (s.skip o.dst) k) (hdo : dstOk s.nt o.dst = true := by exact rfl) (hg : o.guard = some (j, w) := by exact rfl) (hd : dstIn all j = some d := by exact rfl) (ht : s.t d = .bool (!w) := by exact rfl) : gO P Γ Y all (o :: l) s k := oF hdo hg hd ht h
theorem oV {j d : Nat} {w : Bool} (h : gO P Γ Y all l (s.skip o.dst) k) (hdo : dstOk s.nt o.dst = true := by exact rfl) (hg : o.guard = some (j, w) := by exact rfl) (hd : dstIn all j = some d := by exact rfl) (ht : s.t d = .und := by exact rfl) : gO P Γ Y all (o :: l) s k := oU hdo hg hd ht h
theorem dH {j d : Nat} {w : Bool} (h : gD P Γ all l (s.skip o.dst) k) (hdo : dstOk s.nt o.dst = true := by exact rfl) (hg : o.guard = some (j, w) := by exact rfl) (hd : dstIn all j = some d := by exact rfl) (ht : s.t d = .bool (!w) := by exact rfl) : gD P Γ all (o :: l) s k := drF hdo hg hd ht h
theorem dV {j d : Nat} {w : Bool} (h : gD P Γ all l (s.skip o.dst) k) (hdo : dstOk s.nt o.dst = true := by exact rfl) (hg : o.guard = some (j, w) := by exact rfl) (hd : dstIn all j = some d := by exact rfl) (ht : s.t d = .und := by exact rfl) : gD P Γ all (o :: l) s k := drU hdo hg hd ht h
theorem sR {id : Nat} {ops : Array Oper} {ol : List Oper} (h : gO P Γ Y ol ol s (gQ Q .normal)) (ho : ops.toList = ol := by exact rfl) : gC P Γ Y D R (.region id ops false) Q s := sReg ho h
theorem sD {id : Nat} {ops : Array Oper} {ol : List Oper} (h : gD P Γ ol ol s (gQ Q .normal)) (ho : ops.toList = ol := by exact rfl) (hb : (backB ol && drawOk ol) = true := by decide +kernel) (hc : ol.all calmB = true := by decide +kernel) : gC P Γ Y (vcDr P Γ) R (.region id ops true) Q s := sDr ho hb h
theorem sT {d : Nat} (h : gC P Γ Y D R x Q s) (hd : s.t d = .bool true := by exact rfl) : gC P Γ Y D R (.cond (.tmp d) x y) Q s := sCT hd h
theorem sF {d : Nat} (h : gC P Γ Y D R y Q s) (hd : s.t d = .bool false := by exact rfl) : gC P Γ Y D R (.cond (.tmp d) x y) Q s := sCF hd h
theorem qX {id j : Nat} (h : gQ Q .normal s) (hj : Nat.beq j id = true := by exact rfl) : gQ (KBlk id Q) (.exit j) s := qBlkX hj h
theorem qY {id j : Nat} (h : gQ Q (.exit j) s) (hj : Nat.beq j id = false := by exact rfl) : gQ (KBlk id Q) (.exit j) s := qBlkE hj h
theorem sBT {b : Bool} {K : Bool → Prop} (h : K true) (hb : b = true := by exact rfl) : splitB b K := by subst hb; exact splitB_t h
theorem sBF {b : Bool} {K : Bool → Prop} (h : K false) (hb : b = false := by exact rfl) : splitB b K := by subst hb; exact splitB_f h
theorem wrapI {n : Int} (h0 : -9223372036854775808 ≤ n) (h1 : n < 9223372036854775808) : IntKind.i64.wrap n = n := by rw [IntKind.wrap_i64]; omega
theorem wrapS {i m : Nat} (h : i < m) (hm : m ≤ 1099511627776) : IntKind.i64.wrap ((i : Int) + 1) = ((i + 1 : Nat) : Int) := by rw [wrapI (by omega) (by omega)]; omega
/-- As keep, its conditions met by reckoning. -/
theorem Wk.kp {s : St} {ts : List (Nat × AV)} {bs : List (Nat × Blk)} {g : List AV} {nx : Nat} (hb : allP (fun p => (s.L p.1).map' (kA (bs.map (·.1))) = p.2) bs := by repeat (first | exact trivial | refine ⟨rfl, ?_⟩))
    (ht : allP (fun p => kA (bs.map (·.1)) (s.t p.1) = p.2) ts := by repeat (first | exact trivial | refine ⟨rfl, ?_⟩ | refine ⟨congrArg (AV.int .i64) (wrapS (by assumption) (by assumption)), ?_⟩))
    (hal : bs.all (fun p => p.2.alive) = true := by exact rfl) (hg : s.g.map (kA (bs.map (·.1))) = g := by exact rfl) : Wk s ⟨tl ts, Ll bs, s.nt, nx, g, s.y⟩ := Wk.keep ts bs g nx hb ht hal hg
end
end Go.Proofs.Ytcmciimogcfakaa
