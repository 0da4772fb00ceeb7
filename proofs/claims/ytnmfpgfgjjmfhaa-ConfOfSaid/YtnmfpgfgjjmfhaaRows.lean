/-
  No cell of these rows narrows 'for every input' (looked for: loops, veiled, ifaces, maps, wideKeys, modest, calm, conditions, laid).
  DERIVED. THE GIVEN ROWS OF THIS SEAT. 6 by the template 'for every input the law returns true; each argument reads behind the call as it read before'; 0 by the template 'total and deterministic' (their statements: YtnmfpgfgjjmfhaaTotals.lean).
  GIVEN WITH THE SEED: the statements are not yours to turn. If you find one false, say at which input.
  Laid BY PROGRAM, IN A SANDBOX (cutbox-rows.mjs): the forced cells as the released guide's own fill.sh prints them over the translation 6dc1437a79889f81… (all of the seat's roots in one cut). By AI agents, Wed Nov 11 2026. No macro, syntax, notation, axiom, sorry.
-/
import Derived.Test.YtnmfpgfgjjmfhaaChecked
import GoSem.Claim
import GoSem.ClaimJoined
import GoSem.ClaimMapViews
import Derived.JoinedTies
import Derived.KernelRfl
namespace Go.Proofs.Ytnmfpgfgjjmfhaa
/- THE CELL 'sum', in the pinned program and in every row, IS THE sha256 OF THE DUMP (.gsa) THAT YtnmfpgfgjjmfhaaProg.lean LOADS. Nothing in Lean hashes anything: it is a label: what it is worth is what the hold of that sum in a sandbox is worth. -/
noncomputable def Try.pinned : Pinned := { name := "ytnmfpgfgjjmfhaa", sum := "6dc1437a79889f81538231819477a6c8756d66f40ce0cffb8a10c1c6e13a10a1", checked := Try.checked }
namespace Rows
def none {H : Type} : Left H := { results := [], args := [] }

/-- 'provostlaw15.ConfTells': WHATEVER THE INPUT: true; the input reads as it did. -/
def confTellsSpec : ChangeSpec := { name := "confTells", fn := fun _ => fun
  | [d1, d2, d3] => { results := [.lit (.bool true)], args := [d1, d2, d3] }
  | _ => none }
def confTellsRow : OpenClaim := { program := "ytnmfpgfgjjmfhaa", sum := "6dc1437a79889f81538231819477a6c8756d66f40ce0cffb8a10c1c6e13a10a1", func := "provost/provostlaw15.ConfTells", spec := "confTells", unfollowed := true, recurses := true, apart := false }
def ConfTellsSaid : Prop := confTellsRow.holds Try.pinned (OpenSpec.ofChange confTellsSpec)

/-- ITS FALSE NEIGHBOUR: 'it returns false'. Refute it at one input. -/
def confTellsWrong : ChangeSpec := { name := "confTells", fn := fun _ => fun
  | [d1, d2, d3] => { results := [.lit (.bool false)], args := [d1, d2, d3] }
  | _ => none }
def ConfTellsWrongFalsely : Prop := confTellsRow.holds Try.pinned (OpenSpec.ofChange confTellsWrong)

/-- 'provostlaw15.ConfOf': WHATEVER THE INPUT: true; the input reads as it did. -/
def confOfSpec : ChangeSpec := { name := "confOf", fn := fun _ => fun
  | [d1, d2] => { results := [.lit (.bool true)], args := [d1, d2] }
  | _ => none }
def confOfRow : OpenClaim := { program := "ytnmfpgfgjjmfhaa", sum := "6dc1437a79889f81538231819477a6c8756d66f40ce0cffb8a10c1c6e13a10a1", func := "provost/provostlaw15.ConfOf", spec := "confOf", unfollowed := true, recurses := true, apart := false }
def ConfOfSaid : Prop := confOfRow.holds Try.pinned (OpenSpec.ofChange confOfSpec)

/-- ITS FALSE NEIGHBOUR: 'it returns false'. Refute it at one input. -/
def confOfWrong : ChangeSpec := { name := "confOf", fn := fun _ => fun
  | [d1, d2] => { results := [.lit (.bool false)], args := [d1, d2] }
  | _ => none }
def ConfOfWrongFalsely : Prop := confOfRow.holds Try.pinned (OpenSpec.ofChange confOfWrong)

/-- 'provostlaw15.ConfMeets': WHATEVER THE INPUT: true; the input reads as it did. -/
def confMeetsSpec : ChangeSpec := { name := "confMeets", fn := fun _ => fun
  | [d1, d2, d3, d4] => { results := [.lit (.bool true)], args := [d1, d2, d3, d4] }
  | _ => none }
def confMeetsRow : OpenClaim := { program := "ytnmfpgfgjjmfhaa", sum := "6dc1437a79889f81538231819477a6c8756d66f40ce0cffb8a10c1c6e13a10a1", func := "provost/provostlaw15.ConfMeets", spec := "confMeets", unfollowed := true, recurses := true, apart := false }
def ConfMeetsSaid : Prop := confMeetsRow.holds Try.pinned (OpenSpec.ofChange confMeetsSpec)

/-- ITS FALSE NEIGHBOUR: 'it returns false'. Refute it at one input. -/
def confMeetsWrong : ChangeSpec := { name := "confMeets", fn := fun _ => fun
  | [d1, d2, d3, d4] => { results := [.lit (.bool false)], args := [d1, d2, d3, d4] }
  | _ => none }
def ConfMeetsWrongFalsely : Prop := confMeetsRow.holds Try.pinned (OpenSpec.ofChange confMeetsWrong)

/-- 'provostlaw15.ConfReached': WHATEVER THE INPUT: true; the input reads as it did. -/
def confReachedSpec : ChangeSpec := { name := "confReached", fn := fun _ => fun
  | [d1, d2, d3, d4] => { results := [.lit (.bool true)], args := [d1, d2, d3, d4] }
  | _ => none }
def confReachedRow : OpenClaim := { program := "ytnmfpgfgjjmfhaa", sum := "6dc1437a79889f81538231819477a6c8756d66f40ce0cffb8a10c1c6e13a10a1", func := "provost/provostlaw15.ConfReached", spec := "confReached", unfollowed := true, recurses := true, apart := false }
def ConfReachedSaid : Prop := confReachedRow.holds Try.pinned (OpenSpec.ofChange confReachedSpec)

/-- ITS FALSE NEIGHBOUR: 'it returns false'. Refute it at one input. -/
def confReachedWrong : ChangeSpec := { name := "confReached", fn := fun _ => fun
  | [d1, d2, d3, d4] => { results := [.lit (.bool false)], args := [d1, d2, d3, d4] }
  | _ => none }
def ConfReachedWrongFalsely : Prop := confReachedRow.holds Try.pinned (OpenSpec.ofChange confReachedWrong)

/-- 'provostlaw15.ConfVotes': WHATEVER THE INPUT: true; the input reads as it did. -/
def confVotesSpec : ChangeSpec := { name := "confVotes", fn := fun _ => fun
  | [d1, d2, d3] => { results := [.lit (.bool true)], args := [d1, d2, d3] }
  | _ => none }
def confVotesRow : OpenClaim := { program := "ytnmfpgfgjjmfhaa", sum := "6dc1437a79889f81538231819477a6c8756d66f40ce0cffb8a10c1c6e13a10a1", func := "provost/provostlaw15.ConfVotes", spec := "confVotes", unfollowed := true, recurses := true, apart := false }
def ConfVotesSaid : Prop := confVotesRow.holds Try.pinned (OpenSpec.ofChange confVotesSpec)

/-- ITS FALSE NEIGHBOUR: 'it returns false'. Refute it at one input. -/
def confVotesWrong : ChangeSpec := { name := "confVotes", fn := fun _ => fun
  | [d1, d2, d3] => { results := [.lit (.bool false)], args := [d1, d2, d3] }
  | _ => none }
def ConfVotesWrongFalsely : Prop := confVotesRow.holds Try.pinned (OpenSpec.ofChange confVotesWrong)

/-- 'provostlaw15.ConfNear': WHATEVER THE INPUT: true; the input reads as it did. -/
def confNearSpec : ChangeSpec := { name := "confNear", fn := fun _ => fun
  | [d1, d2] => { results := [.lit (.bool true)], args := [d1, d2] }
  | _ => none }
def confNearRow : OpenClaim := { program := "ytnmfpgfgjjmfhaa", sum := "6dc1437a79889f81538231819477a6c8756d66f40ce0cffb8a10c1c6e13a10a1", func := "provost/provostlaw15.ConfNear", spec := "confNear", unfollowed := true, recurses := true, apart := false }
def ConfNearSaid : Prop := confNearRow.holds Try.pinned (OpenSpec.ofChange confNearSpec)

/-- ITS FALSE NEIGHBOUR: 'it returns false'. Refute it at one input. -/
def confNearWrong : ChangeSpec := { name := "confNear", fn := fun _ => fun
  | [d1, d2] => { results := [.lit (.bool false)], args := [d1, d2] }
  | _ => none }
def ConfNearWrongFalsely : Prop := confNearRow.holds Try.pinned (OpenSpec.ofChange confNearWrong)

/- THE SECOND FORM. 'bulk': how many values and letters a reading holds, each counted each time it is reached (what is shared counts as often as it is met; a slice's spare places count too). A statement '..UptoSaid' is the law's where the arguments, and the package variables that the reading takes, are together of bulk at most 1048576: NARROWER than '..Said'. Prove '..Said' where nothing that the law and all that it calls make is longer than what came in: it says more and counts as full. Else prove '..UptoSaid'. A law counts once. -/
mutual
def uptoBulk {H : Type} : DataW H → Nat
  | .lit (.string bytes) => bytes.length + 1
  | .lit _ => 1
  | .nil => 1
  | .ptr d => uptoBulk d + 1
  | .slice elems spare => uptoBulkAll elems + uptoBulkAll spare + 1
  | .agg parts => uptoBulkAll parts + 1
  | .iface _ d => uptoBulk d + 1
  | .map entries => uptoBulkEntries entries + 1
  | .held _ => 1
def uptoBulkAll {H : Type} : List (DataW H) → Nat
  | [] => 0
  | d :: r => uptoBulk d + uptoBulkAll r
def uptoBulkEntries {H : Type} : List (Lit × DataW H) → Nat
  | [] => 0
  | x :: r => uptoBulkEntry x + uptoBulkEntries r
def uptoBulkEntry {H : Type} : Lit × DataW H → Nat
  | (.string bytes, d) => bytes.length + uptoBulk d + 1
  | (_, d) => uptoBulk d + 1
 end
def uptoSmall : (H : Type) → List (DataW H) → Bool := fun _ ds => decide (uptoBulkAll ds ≤ 1048576)
def OpenSpec.upto (s : _root_.Go.ChangeSpec) : _root_.Go.OpenSpec := { _root_.Go.OpenSpec.ofChange s with cond := some uptoSmall }

/-- 'provostlaw15.ConfTells', WHERE WHAT IT READS IS OF BULK AT MOST 1048576: true; the input reads as it did. -/
def confTellsUptoRow : OpenClaim := { program := "ytnmfpgfgjjmfhaa", sum := "6dc1437a79889f81538231819477a6c8756d66f40ce0cffb8a10c1c6e13a10a1", func := "provost/provostlaw15.ConfTells", spec := "confTells", unfollowed := true, recurses := true, apart := false, narrowed := true }
def ConfTellsUptoSaid : Prop := confTellsUptoRow.holds Try.pinned (OpenSpec.upto confTellsSpec)

/-- 'provostlaw15.ConfOf', WHERE WHAT IT READS IS OF BULK AT MOST 1048576: true; the input reads as it did. -/
def confOfUptoRow : OpenClaim := { program := "ytnmfpgfgjjmfhaa", sum := "6dc1437a79889f81538231819477a6c8756d66f40ce0cffb8a10c1c6e13a10a1", func := "provost/provostlaw15.ConfOf", spec := "confOf", unfollowed := true, recurses := true, apart := false, narrowed := true }
def ConfOfUptoSaid : Prop := confOfUptoRow.holds Try.pinned (OpenSpec.upto confOfSpec)

/-- 'provostlaw15.ConfMeets', WHERE WHAT IT READS IS OF BULK AT MOST 1048576: true; the input reads as it did. -/
def confMeetsUptoRow : OpenClaim := { program := "ytnmfpgfgjjmfhaa", sum := "6dc1437a79889f81538231819477a6c8756d66f40ce0cffb8a10c1c6e13a10a1", func := "provost/provostlaw15.ConfMeets", spec := "confMeets", unfollowed := true, recurses := true, apart := false, narrowed := true }
def ConfMeetsUptoSaid : Prop := confMeetsUptoRow.holds Try.pinned (OpenSpec.upto confMeetsSpec)

/-- 'provostlaw15.ConfReached', WHERE WHAT IT READS IS OF BULK AT MOST 1048576: true; the input reads as it did. -/
def confReachedUptoRow : OpenClaim := { program := "ytnmfpgfgjjmfhaa", sum := "6dc1437a79889f81538231819477a6c8756d66f40ce0cffb8a10c1c6e13a10a1", func := "provost/provostlaw15.ConfReached", spec := "confReached", unfollowed := true, recurses := true, apart := false, narrowed := true }
def ConfReachedUptoSaid : Prop := confReachedUptoRow.holds Try.pinned (OpenSpec.upto confReachedSpec)

/-- 'provostlaw15.ConfVotes', WHERE WHAT IT READS IS OF BULK AT MOST 1048576: true; the input reads as it did. -/
def confVotesUptoRow : OpenClaim := { program := "ytnmfpgfgjjmfhaa", sum := "6dc1437a79889f81538231819477a6c8756d66f40ce0cffb8a10c1c6e13a10a1", func := "provost/provostlaw15.ConfVotes", spec := "confVotes", unfollowed := true, recurses := true, apart := false, narrowed := true }
def ConfVotesUptoSaid : Prop := confVotesUptoRow.holds Try.pinned (OpenSpec.upto confVotesSpec)

/-- 'provostlaw15.ConfNear', WHERE WHAT IT READS IS OF BULK AT MOST 1048576: true; the input reads as it did. -/
def confNearUptoRow : OpenClaim := { program := "ytnmfpgfgjjmfhaa", sum := "6dc1437a79889f81538231819477a6c8756d66f40ce0cffb8a10c1c6e13a10a1", func := "provost/provostlaw15.ConfNear", spec := "confNear", unfollowed := true, recurses := true, apart := false, narrowed := true }
def ConfNearUptoSaid : Prop := confNearUptoRow.holds Try.pinned (OpenSpec.upto confNearSpec)

end Rows
end Go.Proofs.Ytnmfpgfgjjmfhaa
