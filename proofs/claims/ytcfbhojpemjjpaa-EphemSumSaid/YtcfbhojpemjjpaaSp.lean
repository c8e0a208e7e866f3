/- What the functions compute, in plain Lean. -/
import Derived.Test.YtcfbhojpemjjpaaTy
set_option linter.unusedVariables false
set_option linter.unusedSimpArgs false
namespace Go.Proofs.Ytcfbhojpemjjpaa
open Go Go.RowKit

abbrev W (n : Int) : Int := IntKind.i64.wrap n
theorem dT {p : Prop} [Decidable p] (h : decide p = true) : p := of_decide_eq_true h
theorem dF {p : Prop} [Decidable p] (h : decide p = false) : ¬ p := of_decide_eq_false h

/-- A place of a table. -/
structure Pl where
  st : Int
  ky : Int
  vl : Int
  deriving DecidableEq
def Pl.enc (p : Pl) : List AV := [.int .i64 p.st, .int .i64 p.ky, .int .i64 p.vl]
abbrev encT (T : List Pl) : AV := .sl (T.map Pl.enc)
abbrev encI (l : List Int) : AV := .sl (l.map fun n => [.int .i64 n])
theorem enc_get {T : List Pl} {i : Nat} {p : Pl} (h : T[i]? = some p) : (T.map Pl.enc)[i]? = some p.enc := by rw [List.getElem?_map, h]; rfl

def homeW (n k : Int) : Int := if n ≤ 0 then 0 else if (W (W (5 * k) + 1)).tmod n < 0 then W ((W (W (5 * k) + 1)).tmod n + n) else (W (W (5 * k) + 1)).tmod n
def findGo (k : Int) : List Pl → Nat → Int
  | [], _ => -1
  | p :: l, i => if p.st = 1 ∧ p.ky = k then (i : Int) else findGo k l (i + 1)
def findL (T : List Pl) (k : Int) : Int := findGo k T 0
def keysL (T : List Pl) : List Int := (T.filter fun p => p.st == 1).map (·.ky)
end Go.Proofs.Ytcfbhojpemjjpaa
