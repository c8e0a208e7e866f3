/- The abstract walk: what an operation does to a state, and what is asked of the prover there. -/
import Derived.Test.YtcfbhojpemjjpaaV
set_option linter.unusedVariables false
set_option linter.unusedSimpArgs false
namespace Go.Proofs.Ytcfbhojpemjjpaa
open Go Go.RowKit

/-- A type, as far as the walk asks. -/
inductive TK where
  | int (k : IntKind)
  | bool
  | slice (e : Nat)
  | struct (fs : List (Nat × Nat))
  | arr (n e : Nat)
  | ptr (e : Nat)
  | map (k e : Nat)
  | other
def TK.isAgg : TK → Bool
  | .struct _ => true
  | .arr _ _ => true
  | _ => false
structure TI where
  k : TK
  sz : Nat
  by_ : Nat
  z : List AV
  eq : Bool := false
def ofV : Value → AV
  | .int k n => .int k n
  | .bool b => .bool b
  | .slice none 0 0 => .nilsl
  | _ => .any
def ofConst : Value → AV
  | .int k n => .int k n
  | .bool b => .bool b
  | .slice none 0 0 => .nilsl
  | _ => .any

/-- Its head is looked for before the walk goes on. -/
def frc (a : AV) (K : AV → Prop) : Prop :=
  match a with
  | .int k n => K (.int k n)
  | .bool b => K (.bool b)
  | .fn f cs => K (.fn f cs)
  | .yld => K .yld
  | .ptr i k j => K (.ptr i k j)
  | .vptr cs => K (.vptr cs)
  | .row i o l => K (.row i o l)
  | .rowf i => K (.rowf i)
  | .sl xs => K (.sl xs)
  | .slc xs => K (.slc xs)
  | .nilsl => K .nilsl
  | .agg cs => K (.agg cs)
  | .tup cs => K (.tup cs)
  | .mp i => K (.mp i)
  | .und => K .und
  | .any => K .any
theorem frc_eq (a : AV) (K : AV → Prop) : frc a K = K a := by cases a <;> rfl
def frcL : List AV → (List AV → Prop) → Prop
  | [], K => K []
  | a :: l, K => frc a fun a => frcL l fun l => K (a :: l)
theorem frcL_eq (l : List AV) (K : List AV → Prop) : frcL l K = K l := by
  induction l generalizing K with
  | nil => rfl
  | cons a l ih => simp only [frcL, frc_eq, ih]
/-- A test whose outcome is not known parts the walk. -/
structure splitB (b : Bool) (K : Bool → Prop) : Prop where
  out : K b
theorem splitB_eq (b : Bool) (K : Bool → Prop) : splitB b K = K b := propext ⟨fun h => h.out, fun h => ⟨h⟩⟩
theorem splitB_intro {b : Bool} {K : Bool → Prop} (ht : b = true → K true) (hf : b = false → K false) : splitB b K := by
  cases b
  · exact ⟨hf rfl⟩
  · exact ⟨ht rfl⟩
theorem splitB_t {K : Bool → Prop} (h : K true) : splitB true K := ⟨h⟩
theorem splitB_f {K : Bool → Prop} (h : K false) : splitB false K := ⟨h⟩

def AV.cells : AV → Option (List AV)
  | .agg cs => some cs
  | .tup _ => none
  | .und => none
  | .any => none
  | a => some [a]
/-- One cell, and no live block in it. -/
def AV.pureC : AV → Bool
  | .int _ _ => true
  | .bool _ => true
  | .sl _ => true
  | .slc _ => true
  | .nilsl => true
  | .vptr _ => true
  | _ => false
/-- A value with no memory behind it. -/
def flat : Nat → AV → Bool
  | _, .int _ _ => true
  | _, .bool _ => true
  | n + 1, .agg cs => cs.all (flat n)
  | n + 1, .tup cs => cs.all (flat n)
  | _, _ => false
def oneC : AV → Bool
  | .agg _ => false
  | .tup _ => false
  | .und => false
  | .any => false
  | _ => true
def splice {α : Type} (x : List α) (j : Nat) (cs : List α) : List α := x.take j ++ cs ++ x.drop (j + cs.length)

/-- A value, its live blocks frozen (those of l); other live blocks are let go of. -/
def pur (L : Nat → Blk) (l : Nat → Bool) : Nat → AV → AV
  | n + 1, .fn f cs => .fn f (cs.map (pur L l n))
  | n + 1, .agg cs => .agg (cs.map (pur L l n))
  | n + 1, .tup cs => .tup (cs.map (pur L l n))
  | _, .rowf i => bif l i then (match L i with | .rows _ _ xs => .sl xs | _ => .any) else .any
  | _, .row i o m => bif l i then (match L i with | .rows _ _ xs => .sl ((xs.drop o).take m) | _ => .any) else .any
  | n + 1, .ptr i k j => bif l i then (match L i with | .box _ cs => (match k with | 0 => .vptr ((cs.drop j).map (pur L l n)) | _ => .any) | .rows _ _ xs => (match xs[k]? with | some x => .vptr (x.drop j) | none => .any) | _ => .any) else .any
  | 0, .ptr _ _ _ => .any
  | 0, .fn _ _ => .any
  | 0, .agg _ => .any
  | 0, .tup _ => .any
  | _, .mp _ => .any
  | _, .yld => .any
  | _, .nilsl => .sl []
  | _, a => a

def memB (l : List Nat) (i : Nat) : Bool := l.any (Nat.beq i)
def gScr (l : List Nat) : AV → AV
  | .ptr i k j => bif memB l i then .any else .ptr i k j
  | .row i o m => bif memB l i then .any else .row i o m
  | .rowf i => bif memB l i then .any else .rowf i
  | .mp i => bif memB l i then .any else .mp i
  | a => a
def gFz (L : Nat → Blk) (l : List Nat) : AV → AV
  | .ptr i k j => bif memB l i then pur L (memB l) 8 (.ptr i k j) else .ptr i k j
  | .row i o m => bif memB l i then pur L (memB l) 8 (.row i o m) else .row i o m
  | .rowf i => bif memB l i then pur L (memB l) 8 (.rowf i) else .rowf i
  | .mp i => bif memB l i then .any else .mp i
  | a => a
def Blk.map' (f : AV → AV) : Blk → Blk
  | .box ty cs => .box ty (cs.map f)
  | b => b
def scA (l : List Nat) (a : AV) : AV := match l with | [] => a | l => trav (gScr l) 8 a
def scL (l : List Nat) (L : Nat → Blk) : Nat → Blk := match l with | [] => L | l => fun i => (L i).map' (trav (gScr l) 8)
def fzA (L : Nat → Blk) (l : List Nat) (a : AV) : AV := match l with | [] => a | l => trav (gFz L l) 8 a
def fzL (l : List Nat) (L : Nat → Blk) : Nat → Blk := match l with | [] => L | l => fun i => bif memB l i then .dead else (L i).map' (trav (gFz L l) 8)

/-- What an operation does: v: its value; wr: blocks that are written, or new; scr: blocks that have moved; fz: blocks that are frozen; rd: blocks that it looked at; al: how many are new. -/
structure Eff where
  v : AV
  wr : List (Nat × Blk) := []
  scr : List Nat := []
  fz : List Nat := []
  rd : List Nat := []
  al : Nat := 0
def wrL (L : Nat → Blk) : List (Nat × Blk) → Nat → Blk
  | [] => L
  | (i, b) :: l => upd (wrL L l) i b
def putT (t : Nat → AV) : Option Nat → AV → Nat → AV
  | some d, v => upd t d v
  | none, _ => t
def apA (L : Nat → Blk) (e : Eff) (a : AV) : AV := scA e.scr (fzA L e.fz a)
def apL (L : Nat → Blk) (e : Eff) : Nat → Blk := wrL (scL e.scr (fzL e.fz L)) e.wr
def apT (L : Nat → Blk) (e : Eff) (t : Nat → AV) : Nat → AV := match e.fz, e.scr with | [], [] => t | _, _ => fun i => apA L e (t i)
def apG (L : Nat → Blk) (e : Eff) (g : List AV) : List AV := match e.fz, e.scr with | [], [] => g | _, _ => g.map (apA L e)
def St.ap (s : St) (d : Option Nat) (e : Eff) : St :=
  { s with t := putT (apT s.L e s.t) d e.v, L := apL s.L e, nx := s.nx + e.al, g := apG s.L e s.g }
theorem apT_eq (L : Nat → Blk) (e : Eff) (t : Nat → AV) (i : Nat) : apT L e t i = apA L e (t i) := by
  obtain ⟨v, wr, scr, fz, rd, al⟩ := e
  cases fz <;> cases scr <;> rfl
theorem apG_eq (L : Nat → Blk) (e : Eff) (g : List AV) : apG L e g = g.map (apA L e) := by
  obtain ⟨v, wr, scr, fz, rd, al⟩ := e
  cases fz <;> cases scr <;> first | rfl | exact (List.map_id _).symm
def St.ev (s : St) : Operand → AV
  | .tmp t => s.t t
  | .const v => ofConst v
  | .global _ => .any
  | .func f => .fn f []
end Go.Proofs.Ytcfbhojpemjjpaa
