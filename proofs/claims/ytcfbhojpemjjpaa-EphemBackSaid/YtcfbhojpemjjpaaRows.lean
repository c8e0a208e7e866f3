/-
  No cell of these rows narrows 'for every input' (looked for: loops, veiled, ifaces, maps, wideKeys, modest, calm, conditions, laid).
  DERIVED. THE GIVEN ROWS OF THIS SEAT. 11 by the template 'for every input the law returns true; each argument reads behind the call as it read before'; 0 by the template 'total and deterministic' (their statements: YtcfbhojpemjjpaaTotals.lean).
  GIVEN WITH THE SEED: the statements are not yours to turn. If you find one false, say at which input.
  Laid BY PROGRAM, IN A SANDBOX (cutbox-rows.mjs): the forced cells as the released guide's own fill.sh prints them over the translation 1a549570f8f3882a… (all of the seat's roots in one cut). By AI agents, Wed Nov 11 2026. No macro, syntax, notation, axiom, sorry.
-/
import Derived.Test.YtcfbhojpemjjpaaChecked
import GoSem.Claim
import GoSem.ClaimJoined
import GoSem.ClaimMapViews
import Derived.JoinedTies
import Derived.KernelRfl
namespace Go.Proofs.Ytcfbhojpemjjpaa
/- THE CELL 'sum', in the pinned program and in every row, IS THE sha256 OF THE DUMP (.gsa) THAT YtcfbhojpemjjpaaProg.lean LOADS. Nothing in Lean hashes anything: it is a label: what it is worth is what the hold of that sum in a sandbox is worth. -/
noncomputable def Try.pinned : Pinned := { name := "ytcfbhojpemjjpaa", sum := "1a549570f8f3882a2ab836fb47346baab78e72199f02ddc8923a992a5b30c06a", checked := Try.checked }
namespace Rows
def none {H : Type} : Left H := { results := [], args := [] }

/-- 'mortmainlaw10.HashActs': WHATEVER THE INPUT: true; the input reads as it did. -/
def hashActsSpec : ChangeSpec := { name := "hashActs", fn := fun _ => fun
  | [d1, d2, d3] => { results := [.lit (.bool true)], args := [d1, d2, d3] }
  | _ => none }
def hashActsRow : OpenClaim := { program := "ytcfbhojpemjjpaa", sum := "1a549570f8f3882a2ab836fb47346baab78e72199f02ddc8923a992a5b30c06a", func := "mortmain/mortmainlaw10.HashActs", spec := "hashActs", unfollowed := true, recurses := true, apart := false }
def HashActsSaid : Prop := hashActsRow.holds Try.pinned (OpenSpec.ofChange hashActsSpec)

/-- ITS FALSE NEIGHBOUR: 'it returns false'. Refute it at one input. -/
def hashActsWrong : ChangeSpec := { name := "hashActs", fn := fun _ => fun
  | [d1, d2, d3] => { results := [.lit (.bool false)], args := [d1, d2, d3] }
  | _ => none }
def HashActsWrongFalsely : Prop := hashActsRow.holds Try.pinned (OpenSpec.ofChange hashActsWrong)

/-- 'mortmainlaw10.HashHomes': WHATEVER THE INPUT: true; the input reads as it did. -/
def hashHomesSpec : ChangeSpec := { name := "hashHomes", fn := fun _ => fun
  | [d1, d2, d3] => { results := [.lit (.bool true)], args := [d1, d2, d3] }
  | _ => none }
def hashHomesRow : OpenClaim := { program := "ytcfbhojpemjjpaa", sum := "1a549570f8f3882a2ab836fb47346baab78e72199f02ddc8923a992a5b30c06a", func := "mortmain/mortmainlaw10.HashHomes", spec := "hashHomes", unfollowed := true, recurses := true, apart := false }
def HashHomesSaid : Prop := hashHomesRow.holds Try.pinned (OpenSpec.ofChange hashHomesSpec)

/-- ITS FALSE NEIGHBOUR: 'it returns false'. Refute it at one input. -/
def hashHomesWrong : ChangeSpec := { name := "hashHomes", fn := fun _ => fun
  | [d1, d2, d3] => { results := [.lit (.bool false)], args := [d1, d2, d3] }
  | _ => none }
def HashHomesWrongFalsely : Prop := hashHomesRow.holds Try.pinned (OpenSpec.ofChange hashHomesWrong)

/-- 'mortmainlaw10.HashStays': WHATEVER THE INPUT: true; the input reads as it did. -/
def hashStaysSpec : ChangeSpec := { name := "hashStays", fn := fun _ => fun
  | [d1, d2] => { results := [.lit (.bool true)], args := [d1, d2] }
  | _ => none }
def hashStaysRow : OpenClaim := { program := "ytcfbhojpemjjpaa", sum := "1a549570f8f3882a2ab836fb47346baab78e72199f02ddc8923a992a5b30c06a", func := "mortmain/mortmainlaw10.HashStays", spec := "hashStays", unfollowed := true, recurses := true, apart := false }
def HashStaysSaid : Prop := hashStaysRow.holds Try.pinned (OpenSpec.ofChange hashStaysSpec)

/-- ITS FALSE NEIGHBOUR: 'it returns false'. Refute it at one input. -/
def hashStaysWrong : ChangeSpec := { name := "hashStays", fn := fun _ => fun
  | [d1, d2] => { results := [.lit (.bool false)], args := [d1, d2] }
  | _ => none }
def HashStaysWrongFalsely : Prop := hashStaysRow.holds Try.pinned (OpenSpec.ofChange hashStaysWrong)

/-- 'mortmainlaw10.HashMaps': WHATEVER THE INPUT: true; the input reads as it did. -/
def hashMapsSpec : ChangeSpec := { name := "hashMaps", fn := fun _ => fun
  | [d] => { results := [.lit (.bool true)], args := [d] }
  | _ => none }
def hashMapsRow : OpenClaim := { program := "ytcfbhojpemjjpaa", sum := "1a549570f8f3882a2ab836fb47346baab78e72199f02ddc8923a992a5b30c06a", func := "mortmain/mortmainlaw10.HashMaps", spec := "hashMaps", unfollowed := true, recurses := true, apart := false }
def HashMapsSaid : Prop := hashMapsRow.holds Try.pinned (OpenSpec.ofChange hashMapsSpec)

/-- ITS FALSE NEIGHBOUR: 'it returns false'. Refute it at one input. -/
def hashMapsWrong : ChangeSpec := { name := "hashMaps", fn := fun _ => fun
  | [d] => { results := [.lit (.bool false)], args := [d] }
  | _ => none }
def HashMapsWrongFalsely : Prop := hashMapsRow.holds Try.pinned (OpenSpec.ofChange hashMapsWrong)

/-- 'mortmainlaw10.HashOthers': WHATEVER THE INPUT: true; the input reads as it did. -/
def hashOthersSpec : ChangeSpec := { name := "hashOthers", fn := fun _ => fun
  | [d1, d2, d3, d4] => { results := [.lit (.bool true)], args := [d1, d2, d3, d4] }
  | _ => none }
def hashOthersRow : OpenClaim := { program := "ytcfbhojpemjjpaa", sum := "1a549570f8f3882a2ab836fb47346baab78e72199f02ddc8923a992a5b30c06a", func := "mortmain/mortmainlaw10.HashOthers", spec := "hashOthers", unfollowed := true, recurses := true, apart := false }
def HashOthersSaid : Prop := hashOthersRow.holds Try.pinned (OpenSpec.ofChange hashOthersSpec)

/-- ITS FALSE NEIGHBOUR: 'it returns false'. Refute it at one input. -/
def hashOthersWrong : ChangeSpec := { name := "hashOthers", fn := fun _ => fun
  | [d1, d2, d3, d4] => { results := [.lit (.bool false)], args := [d1, d2, d3, d4] }
  | _ => none }
def HashOthersWrongFalsely : Prop := hashOthersRow.holds Try.pinned (OpenSpec.ofChange hashOthersWrong)

/-- 'mortmainlaw10.HashFull': WHATEVER THE INPUT: true; the input reads as it did. -/
def hashFullSpec : ChangeSpec := { name := "hashFull", fn := fun _ => fun
  | [d1, d2, d3] => { results := [.lit (.bool true)], args := [d1, d2, d3] }
  | _ => none }
def hashFullRow : OpenClaim := { program := "ytcfbhojpemjjpaa", sum := "1a549570f8f3882a2ab836fb47346baab78e72199f02ddc8923a992a5b30c06a", func := "mortmain/mortmainlaw10.HashFull", spec := "hashFull", unfollowed := true, recurses := true, apart := false }
def HashFullSaid : Prop := hashFullRow.holds Try.pinned (OpenSpec.ofChange hashFullSpec)

/-- ITS FALSE NEIGHBOUR: 'it returns false'. Refute it at one input. -/
def hashFullWrong : ChangeSpec := { name := "hashFull", fn := fun _ => fun
  | [d1, d2, d3] => { results := [.lit (.bool false)], args := [d1, d2, d3] }
  | _ => none }
def HashFullWrongFalsely : Prop := hashFullRow.holds Try.pinned (OpenSpec.ofChange hashFullWrong)

/-- 'mortmainlaw11.EphemActs': WHATEVER THE INPUT: true; the input reads as it did. -/
def ephemActsSpec : ChangeSpec := { name := "ephemActs", fn := fun _ => fun
  | [d1, d2, d3, d4] => { results := [.lit (.bool true)], args := [d1, d2, d3, d4] }
  | _ => none }
def ephemActsRow : OpenClaim := { program := "ytcfbhojpemjjpaa", sum := "1a549570f8f3882a2ab836fb47346baab78e72199f02ddc8923a992a5b30c06a", func := "mortmain/mortmainlaw11.EphemActs", spec := "ephemActs", unfollowed := true, recurses := true, apart := false }
def EphemActsSaid : Prop := ephemActsRow.holds Try.pinned (OpenSpec.ofChange ephemActsSpec)

/-- ITS FALSE NEIGHBOUR: 'it returns false'. Refute it at one input. -/
def ephemActsWrong : ChangeSpec := { name := "ephemActs", fn := fun _ => fun
  | [d1, d2, d3, d4] => { results := [.lit (.bool false)], args := [d1, d2, d3, d4] }
  | _ => none }
def EphemActsWrongFalsely : Prop := ephemActsRow.holds Try.pinned (OpenSpec.ofChange ephemActsWrong)

/-- 'mortmainlaw11.EphemOwns': WHATEVER THE INPUT: true; the input reads as it did. -/
def ephemOwnsSpec : ChangeSpec := { name := "ephemOwns", fn := fun _ => fun
  | [d1, d2, d3] => { results := [.lit (.bool true)], args := [d1, d2, d3] }
  | _ => none }
def ephemOwnsRow : OpenClaim := { program := "ytcfbhojpemjjpaa", sum := "1a549570f8f3882a2ab836fb47346baab78e72199f02ddc8923a992a5b30c06a", func := "mortmain/mortmainlaw11.EphemOwns", spec := "ephemOwns", unfollowed := true, recurses := true, apart := false }
def EphemOwnsSaid : Prop := ephemOwnsRow.holds Try.pinned (OpenSpec.ofChange ephemOwnsSpec)

/-- ITS FALSE NEIGHBOUR: 'it returns false'. Refute it at one input. -/
def ephemOwnsWrong : ChangeSpec := { name := "ephemOwns", fn := fun _ => fun
  | [d1, d2, d3] => { results := [.lit (.bool false)], args := [d1, d2, d3] }
  | _ => none }
def EphemOwnsWrongFalsely : Prop := ephemOwnsRow.holds Try.pinned (OpenSpec.ofChange ephemOwnsWrong)

/-- 'mortmainlaw11.EphemGoes': WHATEVER THE INPUT: true; the input reads as it did. -/
def ephemGoesSpec : ChangeSpec := { name := "ephemGoes", fn := fun _ => fun
  | [d1, d2] => { results := [.lit (.bool true)], args := [d1, d2] }
  | _ => none }
def ephemGoesRow : OpenClaim := { program := "ytcfbhojpemjjpaa", sum := "1a549570f8f3882a2ab836fb47346baab78e72199f02ddc8923a992a5b30c06a", func := "mortmain/mortmainlaw11.EphemGoes", spec := "ephemGoes", unfollowed := true, recurses := true, apart := false }
def EphemGoesSaid : Prop := ephemGoesRow.holds Try.pinned (OpenSpec.ofChange ephemGoesSpec)

/-- ITS FALSE NEIGHBOUR: 'it returns false'. Refute it at one input. -/
def ephemGoesWrong : ChangeSpec := { name := "ephemGoes", fn := fun _ => fun
  | [d1, d2] => { results := [.lit (.bool false)], args := [d1, d2] }
  | _ => none }
def EphemGoesWrongFalsely : Prop := ephemGoesRow.holds Try.pinned (OpenSpec.ofChange ephemGoesWrong)

/-- 'mortmainlaw11.EphemSum': WHATEVER THE INPUT: true; the input reads as it did. -/
def ephemSumSpec : ChangeSpec := { name := "ephemSum", fn := fun _ => fun
  | [d] => { results := [.lit (.bool true)], args := [d] }
  | _ => none }
def ephemSumRow : OpenClaim := { program := "ytcfbhojpemjjpaa", sum := "1a549570f8f3882a2ab836fb47346baab78e72199f02ddc8923a992a5b30c06a", func := "mortmain/mortmainlaw11.EphemSum", spec := "ephemSum", unfollowed := true, recurses := true, apart := false }
def EphemSumSaid : Prop := ephemSumRow.holds Try.pinned (OpenSpec.ofChange ephemSumSpec)

/-- ITS FALSE NEIGHBOUR: 'it returns false'. Refute it at one input. -/
def ephemSumWrong : ChangeSpec := { name := "ephemSum", fn := fun _ => fun
  | [d] => { results := [.lit (.bool false)], args := [d] }
  | _ => none }
def EphemSumWrongFalsely : Prop := ephemSumRow.holds Try.pinned (OpenSpec.ofChange ephemSumWrong)

/-- 'mortmainlaw11.EphemBack': WHATEVER THE INPUT: true; the input reads as it did. -/
def ephemBackSpec : ChangeSpec := { name := "ephemBack", fn := fun _ => fun
  | [d1, d2, d3, d4] => { results := [.lit (.bool true)], args := [d1, d2, d3, d4] }
  | _ => none }
def ephemBackRow : OpenClaim := { program := "ytcfbhojpemjjpaa", sum := "1a549570f8f3882a2ab836fb47346baab78e72199f02ddc8923a992a5b30c06a", func := "mortmain/mortmainlaw11.EphemBack", spec := "ephemBack", unfollowed := true, recurses := true, apart := false }
def EphemBackSaid : Prop := ephemBackRow.holds Try.pinned (OpenSpec.ofChange ephemBackSpec)

/-- ITS FALSE NEIGHBOUR: 'it returns false'. Refute it at one input. -/
def ephemBackWrong : ChangeSpec := { name := "ephemBack", fn := fun _ => fun
  | [d1, d2, d3, d4] => { results := [.lit (.bool false)], args := [d1, d2, d3, d4] }
  | _ => none }
def EphemBackWrongFalsely : Prop := ephemBackRow.holds Try.pinned (OpenSpec.ofChange ephemBackWrong)

/- THE SECOND FORM. 'bulk': how many values and letters a reading holds, each counted each time it is reached (what is shared counts as often as it is met; a slice's spare places count too). A statement '..UptoSaid' is the law's where the arguments, and the package variables that the reading takes, are together of bulk at most 1048576: NARROWER than '..Said'. Prove '..Said' where nothing that the law and all that it calls make is longer than what came in: it says more and counts as full. Else prove '..UptoSaid'. A law counts once. -/
mutual
def uptoBulk {H : Type} : DataW H → Nat
  | .lit (.string bytes) => bytes.length + 1
  | .lit _ => 1
  | .nil => 1
  | .ptr d => uptoBulk d + 1
  | .slice elems spare => uptoBulkAll elems + uptoBulkAll spare + 1
  | .agg parts => uptoBulkAll parts + 1
  | .iface _ d => uptoBulk d + 1
  | .map entries => uptoBulkEntries entries + 1
  | .held _ => 1
def uptoBulkAll {H : Type} : List (DataW H) → Nat
  | [] => 0
  | d :: r => uptoBulk d + uptoBulkAll r
def uptoBulkEntries {H : Type} : List (Lit × DataW H) → Nat
  | [] => 0
  | x :: r => uptoBulkEntry x + uptoBulkEntries r
def uptoBulkEntry {H : Type} : Lit × DataW H → Nat
  | (.string bytes, d) => bytes.length + uptoBulk d + 1
  | (_, d) => uptoBulk d + 1
 end
def uptoSmall : (H : Type) → List (DataW H) → Bool := fun _ ds => decide (uptoBulkAll ds ≤ 1048576)
def OpenSpec.upto (s : _root_.Go.ChangeSpec) : _root_.Go.OpenSpec := { _root_.Go.OpenSpec.ofChange s with cond := some uptoSmall }

/-- 'mortmainlaw10.HashActs', WHERE WHAT IT READS IS OF BULK AT MOST 1048576: true; the input reads as it did. -/
def hashActsUptoRow : OpenClaim := { program := "ytcfbhojpemjjpaa", sum := "1a549570f8f3882a2ab836fb47346baab78e72199f02ddc8923a992a5b30c06a", func := "mortmain/mortmainlaw10.HashActs", spec := "hashActs", unfollowed := true, recurses := true, apart := false, narrowed := true }
def HashActsUptoSaid : Prop := hashActsUptoRow.holds Try.pinned (OpenSpec.upto hashActsSpec)

/-- 'mortmainlaw10.HashHomes', WHERE WHAT IT READS IS OF BULK AT MOST 1048576: true; the input reads as it did. -/
def hashHomesUptoRow : OpenClaim := { program := "ytcfbhojpemjjpaa", sum := "1a549570f8f3882a2ab836fb47346baab78e72199f02ddc8923a992a5b30c06a", func := "mortmain/mortmainlaw10.HashHomes", spec := "hashHomes", unfollowed := true, recurses := true, apart := false, narrowed := true }
def HashHomesUptoSaid : Prop := hashHomesUptoRow.holds Try.pinned (OpenSpec.upto hashHomesSpec)

/-- 'mortmainlaw10.HashStays', WHERE WHAT IT READS IS OF BULK AT MOST 1048576: true; the input reads as it did. -/
def hashStaysUptoRow : OpenClaim := { program := "ytcfbhojpemjjpaa", sum := "1a549570f8f3882a2ab836fb47346baab78e72199f02ddc8923a992a5b30c06a", func := "mortmain/mortmainlaw10.HashStays", spec := "hashStays", unfollowed := true, recurses := true, apart := false, narrowed := true }
def HashStaysUptoSaid : Prop := hashStaysUptoRow.holds Try.pinned (OpenSpec.upto hashStaysSpec)

/-- 'mortmainlaw10.HashMaps', WHERE WHAT IT READS IS OF BULK AT MOST 1048576: true; the input reads as it did. -/
def hashMapsUptoRow : OpenClaim := { program := "ytcfbhojpemjjpaa", sum := "1a549570f8f3882a2ab836fb47346baab78e72199f02ddc8923a992a5b30c06a", func := "mortmain/mortmainlaw10.HashMaps", spec := "hashMaps", unfollowed := true, recurses := true, apart := false, narrowed := true }
def HashMapsUptoSaid : Prop := hashMapsUptoRow.holds Try.pinned (OpenSpec.upto hashMapsSpec)

/-- 'mortmainlaw10.HashOthers', WHERE WHAT IT READS IS OF BULK AT MOST 1048576: true; the input reads as it did. -/
def hashOthersUptoRow : OpenClaim := { program := "ytcfbhojpemjjpaa", sum := "1a549570f8f3882a2ab836fb47346baab78e72199f02ddc8923a992a5b30c06a", func := "mortmain/mortmainlaw10.HashOthers", spec := "hashOthers", unfollowed := true, recurses := true, apart := false, narrowed := true }
def HashOthersUptoSaid : Prop := hashOthersUptoRow.holds Try.pinned (OpenSpec.upto hashOthersSpec)

/-- 'mortmainlaw10.HashFull', WHERE WHAT IT READS IS OF BULK AT MOST 1048576: true; the input reads as it did. -/
def hashFullUptoRow : OpenClaim := { program := "ytcfbhojpemjjpaa", sum := "1a549570f8f3882a2ab836fb47346baab78e72199f02ddc8923a992a5b30c06a", func := "mortmain/mortmainlaw10.HashFull", spec := "hashFull", unfollowed := true, recurses := true, apart := false, narrowed := true }
def HashFullUptoSaid : Prop := hashFullUptoRow.holds Try.pinned (OpenSpec.upto hashFullSpec)

/-- 'mortmainlaw11.EphemActs', WHERE WHAT IT READS IS OF BULK AT MOST 1048576: true; the input reads as it did. -/
def ephemActsUptoRow : OpenClaim := { program := "ytcfbhojpemjjpaa", sum := "1a549570f8f3882a2ab836fb47346baab78e72199f02ddc8923a992a5b30c06a", func := "mortmain/mortmainlaw11.EphemActs", spec := "ephemActs", unfollowed := true, recurses := true, apart := false, narrowed := true }
def EphemActsUptoSaid : Prop := ephemActsUptoRow.holds Try.pinned (OpenSpec.upto ephemActsSpec)

/-- 'mortmainlaw11.EphemOwns', WHERE WHAT IT READS IS OF BULK AT MOST 1048576: true; the input reads as it did. -/
def ephemOwnsUptoRow : OpenClaim := { program := "ytcfbhojpemjjpaa", sum := "1a549570f8f3882a2ab836fb47346baab78e72199f02ddc8923a992a5b30c06a", func := "mortmain/mortmainlaw11.EphemOwns", spec := "ephemOwns", unfollowed := true, recurses := true, apart := false, narrowed := true }
def EphemOwnsUptoSaid : Prop := ephemOwnsUptoRow.holds Try.pinned (OpenSpec.upto ephemOwnsSpec)

/-- 'mortmainlaw11.EphemGoes', WHERE WHAT IT READS IS OF BULK AT MOST 1048576: true; the input reads as it did. -/
def ephemGoesUptoRow : OpenClaim := { program := "ytcfbhojpemjjpaa", sum := "1a549570f8f3882a2ab836fb47346baab78e72199f02ddc8923a992a5b30c06a", func := "mortmain/mortmainlaw11.EphemGoes", spec := "ephemGoes", unfollowed := true, recurses := true, apart := false, narrowed := true }
def EphemGoesUptoSaid : Prop := ephemGoesUptoRow.holds Try.pinned (OpenSpec.upto ephemGoesSpec)

/-- 'mortmainlaw11.EphemSum', WHERE WHAT IT READS IS OF BULK AT MOST 1048576: true; the input reads as it did. -/
def ephemSumUptoRow : OpenClaim := { program := "ytcfbhojpemjjpaa", sum := "1a549570f8f3882a2ab836fb47346baab78e72199f02ddc8923a992a5b30c06a", func := "mortmain/mortmainlaw11.EphemSum", spec := "ephemSum", unfollowed := true, recurses := true, apart := false, narrowed := true }
def EphemSumUptoSaid : Prop := ephemSumUptoRow.holds Try.pinned (OpenSpec.upto ephemSumSpec)

/-- 'mortmainlaw11.EphemBack', WHERE WHAT IT READS IS OF BULK AT MOST 1048576: true; the input reads as it did. -/
def ephemBackUptoRow : OpenClaim := { program := "ytcfbhojpemjjpaa", sum := "1a549570f8f3882a2ab836fb47346baab78e72199f02ddc8923a992a5b30c06a", func := "mortmain/mortmainlaw11.EphemBack", spec := "ephemBack", unfollowed := true, recurses := true, apart := false, narrowed := true }
def EphemBackUptoSaid : Prop := ephemBackUptoRow.holds Try.pinned (OpenSpec.upto ephemBackSpec)

end Rows
end Go.Proofs.Ytcfbhojpemjjpaa
