/-
  No cell of these rows narrows 'for every input' (looked for: loops, veiled, ifaces, maps, wideKeys, modest, calm, conditions, laid).
  DERIVED. THE GIVEN ROWS OF THIS SEAT. 2 by the template 'for every input the law returns true; each argument reads behind the call as it read before'; 0 by the template 'total and deterministic' (their statements: YtcmciimogcfakaaTotals.lean).
  GIVEN WITH THE SEED: the statements are not yours to turn. If you find one false, say at which input.
  Laid BY PROGRAM, IN A SANDBOX (cutbox-rows.mjs): the forced cells as the released guide's own fill.sh prints them over the translation f36358b48898520b… (all of the seat's roots in one cut). By AI agents, Wed Nov 11 2026. No macro, syntax, notation, axiom, sorry.
-/
import Derived.Test.YtcmciimogcfakaaChecked
import GoSem.Claim
import GoSem.ClaimJoined
import GoSem.ClaimMapViews
import Derived.JoinedTies
import Derived.KernelRfl
namespace Go.Proofs.Ytcmciimogcfakaa
/- THE CELL 'sum', in the pinned program and in every row, IS THE sha256 OF THE DUMP (.gsa) THAT YtcmciimogcfakaaProg.lean LOADS. Nothing in Lean hashes anything: it is a label: what it is worth is what the hold of that sum in a sandbox is worth. -/
noncomputable def Try.pinned : Pinned := { name := "ytcmciimogcfakaa", sum := "f36358b48898520bda9d6a9e223f65ffd5f236eef09e8f6ebe089507f4319105", checked := Try.checked }
namespace Rows
def none {H : Type} : Left H := { results := [], args := [] }

/-- 'mortmainlaw12.FixPlain': WHATEVER THE INPUT: true; the input reads as it did. -/
def fixPlainSpec : ChangeSpec := { name := "fixPlain", fn := fun _ => fun
  | [d1, d2, d3] => { results := [.lit (.bool true)], args := [d1, d2, d3] }
  | _ => none }
def fixPlainRow : OpenClaim := { program := "ytcmciimogcfakaa", sum := "f36358b48898520bda9d6a9e223f65ffd5f236eef09e8f6ebe089507f4319105", func := "mortmain/mortmainlaw12.FixPlain", spec := "fixPlain", unfollowed := true, recurses := true, apart := false }
def FixPlainSaid : Prop := fixPlainRow.holds Try.pinned (OpenSpec.ofChange fixPlainSpec)

/-- ITS FALSE NEIGHBOUR: 'it returns false'. Refute it at one input. -/
def fixPlainWrong : ChangeSpec := { name := "fixPlain", fn := fun _ => fun
  | [d1, d2, d3] => { results := [.lit (.bool false)], args := [d1, d2, d3] }
  | _ => none }
def FixPlainWrongFalsely : Prop := fixPlainRow.holds Try.pinned (OpenSpec.ofChange fixPlainWrong)

/-- 'mortmainlaw12.FixTwice': WHATEVER THE INPUT: true; the input reads as it did. -/
def fixTwiceSpec : ChangeSpec := { name := "fixTwice", fn := fun _ => fun
  | [d1, d2, d3] => { results := [.lit (.bool true)], args := [d1, d2, d3] }
  | _ => none }
def fixTwiceRow : OpenClaim := { program := "ytcmciimogcfakaa", sum := "f36358b48898520bda9d6a9e223f65ffd5f236eef09e8f6ebe089507f4319105", func := "mortmain/mortmainlaw12.FixTwice", spec := "fixTwice", unfollowed := true, recurses := true, apart := false }
def FixTwiceSaid : Prop := fixTwiceRow.holds Try.pinned (OpenSpec.ofChange fixTwiceSpec)

/-- ITS FALSE NEIGHBOUR: 'it returns false'. Refute it at one input. -/
def fixTwiceWrong : ChangeSpec := { name := "fixTwice", fn := fun _ => fun
  | [d1, d2, d3] => { results := [.lit (.bool false)], args := [d1, d2, d3] }
  | _ => none }
def FixTwiceWrongFalsely : Prop := fixTwiceRow.holds Try.pinned (OpenSpec.ofChange fixTwiceWrong)

/- THE SECOND FORM. 'bulk': how many values and letters a reading holds, each counted each time it is reached (what is shared counts as often as it is met; a slice's spare places count too). A statement '..UptoSaid' is the law's where the arguments, and the package variables that the reading takes, are together of bulk at most 1048576: NARROWER than '..Said'. Prove '..Said' where nothing that the law and all that it calls make is longer than what came in: it says more and counts as full. Else prove '..UptoSaid'. A law counts once. -/
mutual
def uptoBulk {H : Type} : DataW H → Nat
  | .lit (.string bytes) => bytes.length + 1
  | .lit _ => 1
  | .nil => 1
  | .ptr d => uptoBulk d + 1
  | .slice elems spare => uptoBulkAll elems + uptoBulkAll spare + 1
  | .agg parts => uptoBulkAll parts + 1
  | .iface _ d => uptoBulk d + 1
  | .map entries => uptoBulkEntries entries + 1
  | .held _ => 1
def uptoBulkAll {H : Type} : List (DataW H) → Nat
  | [] => 0
  | d :: r => uptoBulk d + uptoBulkAll r
def uptoBulkEntries {H : Type} : List (Lit × DataW H) → Nat
  | [] => 0
  | x :: r => uptoBulkEntry x + uptoBulkEntries r
def uptoBulkEntry {H : Type} : Lit × DataW H → Nat
  | (.string bytes, d) => bytes.length + uptoBulk d + 1
  | (_, d) => uptoBulk d + 1
 end
def uptoSmall : (H : Type) → List (DataW H) → Bool := fun _ ds => decide (uptoBulkAll ds ≤ 1048576)
def OpenSpec.upto (s : _root_.Go.ChangeSpec) : _root_.Go.OpenSpec := { _root_.Go.OpenSpec.ofChange s with cond := some uptoSmall }

/-- 'mortmainlaw12.FixPlain', WHERE WHAT IT READS IS OF BULK AT MOST 1048576: true; the input reads as it did. -/
def fixPlainUptoRow : OpenClaim := { program := "ytcmciimogcfakaa", sum := "f36358b48898520bda9d6a9e223f65ffd5f236eef09e8f6ebe089507f4319105", func := "mortmain/mortmainlaw12.FixPlain", spec := "fixPlain", unfollowed := true, recurses := true, apart := false, narrowed := true }
def FixPlainUptoSaid : Prop := fixPlainUptoRow.holds Try.pinned (OpenSpec.upto fixPlainSpec)

/-- 'mortmainlaw12.FixTwice', WHERE WHAT IT READS IS OF BULK AT MOST 1048576: true; the input reads as it did. -/
def fixTwiceUptoRow : OpenClaim := { program := "ytcmciimogcfakaa", sum := "f36358b48898520bda9d6a9e223f65ffd5f236eef09e8f6ebe089507f4319105", func := "mortmain/mortmainlaw12.FixTwice", spec := "fixTwice", unfollowed := true, recurses := true, apart := false, narrowed := true }
def FixTwiceUptoSaid : Prop := fixTwiceUptoRow.holds Try.pinned (OpenSpec.upto fixTwiceSpec)

end Rows
end Go.Proofs.Ytcmciimogcfakaa
