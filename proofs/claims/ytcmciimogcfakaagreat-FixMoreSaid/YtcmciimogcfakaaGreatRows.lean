/-
  No cell of these rows narrows 'for every input' (looked for: loops, veiled, ifaces, maps, wideKeys, modest, calm, conditions, laid).
  DERIVED. THE GIVEN ROWS OF THIS SEAT. 3 by the template 'for every input the law returns true; each argument reads behind the call as it read before'; 0 by the template 'total and deterministic' (their statements: YtcmciimogcfakaaGreatTotals.lean).
  GIVEN WITH THE SEED: the statements are not yours to turn. If you find one false, say at which input.
  Laid BY PROGRAM, IN A SANDBOX (cutbox-rows.mjs): the forced cells as the released guide's own fill.sh prints them over the translation 58964c549685ccde… (all of the seat's roots in one cut). By AI agents, Wed Nov 11 2026. No macro, syntax, notation, axiom, sorry.
-/
import Derived.Test.YtcmciimogcfakaaGreatChecked
import GoSem.Claim
import GoSem.ClaimJoined
import GoSem.ClaimMapViews
import Derived.JoinedTies
import Derived.KernelRfl
namespace Go.Proofs.YtcmciimogcfakaaGreat
/- THE CELL 'sum', in the pinned program and in every row, IS THE sha256 OF THE DUMP (.gsa) THAT YtcmciimogcfakaaGreatProg.lean LOADS. Nothing in Lean hashes anything: it is a label: what it is worth is what the hold of that sum in a sandbox is worth. -/
noncomputable def Tryz.pinned : Pinned := { name := "ytcmciimogcfakaagreat", sum := "58964c549685ccde40989279b830f3f364104f187c256ddd79b9bfea839df67a", checked := Tryz.checked }
namespace Rows
def none {H : Type} : Left H := { results := [], args := [] }

/-- 'mortmainlaw12.FixTells': WHATEVER THE INPUT: true; the input reads as it did. -/
def fixTellsSpec : ChangeSpec := { name := "fixTells", fn := fun _ => fun
  | [d1, d2, d3] => { results := [.lit (.bool true)], args := [d1, d2, d3] }
  | _ => none }
def fixTellsRow : OpenClaim := { program := "ytcmciimogcfakaagreat", sum := "58964c549685ccde40989279b830f3f364104f187c256ddd79b9bfea839df67a", func := "mortmain/mortmainlaw12.FixTells", spec := "fixTells", unfollowed := true, recurses := true, apart := false }
def FixTellsSaid : Prop := fixTellsRow.holds Tryz.pinned (OpenSpec.ofChange fixTellsSpec)

/-- ITS FALSE NEIGHBOUR: 'it returns false'. Refute it at one input. -/
def fixTellsWrong : ChangeSpec := { name := "fixTells", fn := fun _ => fun
  | [d1, d2, d3] => { results := [.lit (.bool false)], args := [d1, d2, d3] }
  | _ => none }
def FixTellsWrongFalsely : Prop := fixTellsRow.holds Tryz.pinned (OpenSpec.ofChange fixTellsWrong)

/-- 'mortmainlaw12.FixLeast': WHATEVER THE INPUT: true; the input reads as it did. -/
def fixLeastSpec : ChangeSpec := { name := "fixLeast", fn := fun _ => fun
  | [d1, d2, d3, d4] => { results := [.lit (.bool true)], args := [d1, d2, d3, d4] }
  | _ => none }
def fixLeastRow : OpenClaim := { program := "ytcmciimogcfakaagreat", sum := "58964c549685ccde40989279b830f3f364104f187c256ddd79b9bfea839df67a", func := "mortmain/mortmainlaw12.FixLeast", spec := "fixLeast", unfollowed := true, recurses := true, apart := false }
def FixLeastSaid : Prop := fixLeastRow.holds Tryz.pinned (OpenSpec.ofChange fixLeastSpec)

/-- ITS FALSE NEIGHBOUR: 'it returns false'. Refute it at one input. -/
def fixLeastWrong : ChangeSpec := { name := "fixLeast", fn := fun _ => fun
  | [d1, d2, d3, d4] => { results := [.lit (.bool false)], args := [d1, d2, d3, d4] }
  | _ => none }
def FixLeastWrongFalsely : Prop := fixLeastRow.holds Tryz.pinned (OpenSpec.ofChange fixLeastWrong)

/-- 'mortmainlaw12.FixMore': WHATEVER THE INPUT: true; the input reads as it did. -/
def fixMoreSpec : ChangeSpec := { name := "fixMore", fn := fun _ => fun
  | [d1, d2, d3, d4, d5, d6] => { results := [.lit (.bool true)], args := [d1, d2, d3, d4, d5, d6] }
  | _ => none }
def fixMoreRow : OpenClaim := { program := "ytcmciimogcfakaagreat", sum := "58964c549685ccde40989279b830f3f364104f187c256ddd79b9bfea839df67a", func := "mortmain/mortmainlaw12.FixMore", spec := "fixMore", unfollowed := true, recurses := true, apart := false }
def FixMoreSaid : Prop := fixMoreRow.holds Tryz.pinned (OpenSpec.ofChange fixMoreSpec)

/-- ITS FALSE NEIGHBOUR: 'it returns false'. Refute it at one input. -/
def fixMoreWrong : ChangeSpec := { name := "fixMore", fn := fun _ => fun
  | [d1, d2, d3, d4, d5, d6] => { results := [.lit (.bool false)], args := [d1, d2, d3, d4, d5, d6] }
  | _ => none }
def FixMoreWrongFalsely : Prop := fixMoreRow.holds Tryz.pinned (OpenSpec.ofChange fixMoreWrong)

/- THE SECOND FORM. 'bulk': how many values and letters a reading holds, each counted each time it is reached (what is shared counts as often as it is met; a slice's spare places count too). A statement '..UptoSaid' is the law's where the arguments, and the package variables that the reading takes, are together of bulk at most 1048576: NARROWER than '..Said'. Prove '..Said' where nothing that the law and all that it calls make is longer than what came in: it says more and counts as full. Else prove '..UptoSaid'. A law counts once. -/
mutual
def uptoBulk {H : Type} : DataW H → Nat
  | .lit (.string bytes) => bytes.length + 1
  | .lit _ => 1
  | .nil => 1
  | .ptr d => uptoBulk d + 1
  | .slice elems spare => uptoBulkAll elems + uptoBulkAll spare + 1
  | .agg parts => uptoBulkAll parts + 1
  | .iface _ d => uptoBulk d + 1
  | .map entries => uptoBulkEntries entries + 1
  | .held _ => 1
def uptoBulkAll {H : Type} : List (DataW H) → Nat
  | [] => 0
  | d :: r => uptoBulk d + uptoBulkAll r
def uptoBulkEntries {H : Type} : List (Lit × DataW H) → Nat
  | [] => 0
  | x :: r => uptoBulkEntry x + uptoBulkEntries r
def uptoBulkEntry {H : Type} : Lit × DataW H → Nat
  | (.string bytes, d) => bytes.length + uptoBulk d + 1
  | (_, d) => uptoBulk d + 1
 end
def uptoSmall : (H : Type) → List (DataW H) → Bool := fun _ ds => decide (uptoBulkAll ds ≤ 1048576)
def OpenSpec.upto (s : _root_.Go.ChangeSpec) : _root_.Go.OpenSpec := { _root_.Go.OpenSpec.ofChange s with cond := some uptoSmall }

/-- 'mortmainlaw12.FixTells', WHERE WHAT IT READS IS OF BULK AT MOST 1048576: true; the input reads as it did. -/
def fixTellsUptoRow : OpenClaim := { program := "ytcmciimogcfakaagreat", sum := "58964c549685ccde40989279b830f3f364104f187c256ddd79b9bfea839df67a", func := "mortmain/mortmainlaw12.FixTells", spec := "fixTells", unfollowed := true, recurses := true, apart := false, narrowed := true }
def FixTellsUptoSaid : Prop := fixTellsUptoRow.holds Tryz.pinned (OpenSpec.upto fixTellsSpec)

/-- 'mortmainlaw12.FixLeast', WHERE WHAT IT READS IS OF BULK AT MOST 1048576: true; the input reads as it did. -/
def fixLeastUptoRow : OpenClaim := { program := "ytcmciimogcfakaagreat", sum := "58964c549685ccde40989279b830f3f364104f187c256ddd79b9bfea839df67a", func := "mortmain/mortmainlaw12.FixLeast", spec := "fixLeast", unfollowed := true, recurses := true, apart := false, narrowed := true }
def FixLeastUptoSaid : Prop := fixLeastUptoRow.holds Tryz.pinned (OpenSpec.upto fixLeastSpec)

/-- 'mortmainlaw12.FixMore', WHERE WHAT IT READS IS OF BULK AT MOST 1048576: true; the input reads as it did. -/
def fixMoreUptoRow : OpenClaim := { program := "ytcmciimogcfakaagreat", sum := "58964c549685ccde40989279b830f3f364104f187c256ddd79b9bfea839df67a", func := "mortmain/mortmainlaw12.FixMore", spec := "fixMore", unfollowed := true, recurses := true, apart := false, narrowed := true }
def FixMoreUptoSaid : Prop := fixMoreUptoRow.holds Tryz.pinned (OpenSpec.upto fixMoreSpec)

end Rows
end Go.Proofs.YtcmciimogcfakaaGreat
