/-
  No cell of these rows narrows 'for every input' (looked for: loops, veiled, ifaces, maps, wideKeys, modest, calm, conditions, laid).
  DERIVED. THE GIVEN ROWS OF THIS SEAT. 11 by the template 'for every input the law returns true; each argument reads behind the call as it read before'; 0 by the template 'total and deterministic' (their statements: YtidamnmfobblaaaTotals.lean).
  GIVEN WITH THE SEED: the statements are not yours to turn. If you find one false, say at which input.
  Laid BY PROGRAM, IN A SANDBOX (cutbox-rows.mjs): the forced cells as the released guide's own fill.sh prints them over the translation d337d63625bb447b… (all of the seat's roots in one cut). By AI agents, Wed Nov 11 2026. No macro, syntax, notation, axiom, sorry.
-/
import Derived.Test.YtidamnmfobblaaaChecked
import GoSem.Claim
import GoSem.ClaimJoined
import GoSem.ClaimMapViews
import Derived.JoinedTies
import Derived.KernelRfl
namespace Go.Proofs.Ytidamnmfobblaaa
/- THE CELL 'sum', in the pinned program and in every row, IS THE sha256 OF THE DUMP (.gsa) THAT YtidamnmfobblaaaProg.lean LOADS. Nothing in Lean hashes anything: it is a label: what it is worth is what the hold of that sum in a sandbox is worth. -/
noncomputable def Try.pinned : Pinned := { name := "ytidamnmfobblaaa", sum := "d337d63625bb447b10fe310d20b230d5bf85959c87fa44a72d23416aa99d6b1a", checked := Try.checked }
namespace Rows
def none {H : Type} : Left H := { results := [], args := [] }

/-- 'provostlaw08.NetDoes': WHATEVER THE INPUT: true; the input reads as it did. -/
def netDoesSpec : ChangeSpec := { name := "netDoes", fn := fun _ => fun
  | [d] => { results := [.lit (.bool true)], args := [d] }
  | _ => none }
def netDoesRow : OpenClaim := { program := "ytidamnmfobblaaa", sum := "d337d63625bb447b10fe310d20b230d5bf85959c87fa44a72d23416aa99d6b1a", func := "provost/provostlaw08.NetDoes", spec := "netDoes", plainKeys := false, apart := false }
def NetDoesSaid : Prop := netDoesRow.holds Try.pinned (OpenSpec.ofChange netDoesSpec)

/-- ITS FALSE NEIGHBOUR: 'it returns false'. Refute it at one input. -/
def netDoesWrong : ChangeSpec := { name := "netDoes", fn := fun _ => fun
  | [d] => { results := [.lit (.bool false)], args := [d] }
  | _ => none }
def NetDoesWrongFalsely : Prop := netDoesRow.holds Try.pinned (OpenSpec.ofChange netDoesWrong)

/-- 'provostlaw08.NetKeeps': WHATEVER THE INPUT: true; the input reads as it did. -/
def netKeepsSpec : ChangeSpec := { name := "netKeeps", fn := fun _ => fun
  | [d] => { results := [.lit (.bool true)], args := [d] }
  | _ => none }
def netKeepsRow : OpenClaim := { program := "ytidamnmfobblaaa", sum := "d337d63625bb447b10fe310d20b230d5bf85959c87fa44a72d23416aa99d6b1a", func := "provost/provostlaw08.NetKeeps", spec := "netKeeps", plainKeys := false, apart := false }
def NetKeepsSaid : Prop := netKeepsRow.holds Try.pinned (OpenSpec.ofChange netKeepsSpec)

/-- ITS FALSE NEIGHBOUR: 'it returns false'. Refute it at one input. -/
def netKeepsWrong : ChangeSpec := { name := "netKeeps", fn := fun _ => fun
  | [d] => { results := [.lit (.bool false)], args := [d] }
  | _ => none }
def NetKeepsWrongFalsely : Prop := netKeepsRow.holds Try.pinned (OpenSpec.ofChange netKeepsWrong)

/-- 'provostlaw08.NetSides': WHATEVER THE INPUT: true; the input reads as it did. -/
def netSidesSpec : ChangeSpec := { name := "netSides", fn := fun _ => fun
  | [d1, d2] => { results := [.lit (.bool true)], args := [d1, d2] }
  | _ => none }
def netSidesRow : OpenClaim := { program := "ytidamnmfobblaaa", sum := "d337d63625bb447b10fe310d20b230d5bf85959c87fa44a72d23416aa99d6b1a", func := "provost/provostlaw08.NetSides", spec := "netSides", plainKeys := false, apart := false }
def NetSidesSaid : Prop := netSidesRow.holds Try.pinned (OpenSpec.ofChange netSidesSpec)

/-- ITS FALSE NEIGHBOUR: 'it returns false'. Refute it at one input. -/
def netSidesWrong : ChangeSpec := { name := "netSides", fn := fun _ => fun
  | [d1, d2] => { results := [.lit (.bool false)], args := [d1, d2] }
  | _ => none }
def NetSidesWrongFalsely : Prop := netSidesRow.holds Try.pinned (OpenSpec.ofChange netSidesWrong)

/-- 'provostlaw08.NetWay': WHATEVER THE INPUT: true; the input reads as it did. -/
def netWaySpec : ChangeSpec := { name := "netWay", fn := fun _ => fun
  | [d] => { results := [.lit (.bool true)], args := [d] }
  | _ => none }
def netWayRow : OpenClaim := { program := "ytidamnmfobblaaa", sum := "d337d63625bb447b10fe310d20b230d5bf85959c87fa44a72d23416aa99d6b1a", func := "provost/provostlaw08.NetWay", spec := "netWay", plainKeys := false, apart := false }
def NetWaySaid : Prop := netWayRow.holds Try.pinned (OpenSpec.ofChange netWaySpec)

/-- ITS FALSE NEIGHBOUR: 'it returns false'. Refute it at one input. -/
def netWayWrong : ChangeSpec := { name := "netWay", fn := fun _ => fun
  | [d] => { results := [.lit (.bool false)], args := [d] }
  | _ => none }
def NetWayWrongFalsely : Prop := netWayRow.holds Try.pinned (OpenSpec.ofChange netWayWrong)

/-- 'provostlaw08.NetFull': WHATEVER THE INPUT: true; the input reads as it did. -/
def netFullSpec : ChangeSpec := { name := "netFull", fn := fun _ => fun
  | [d1, d2] => { results := [.lit (.bool true)], args := [d1, d2] }
  | _ => none }
def netFullRow : OpenClaim := { program := "ytidamnmfobblaaa", sum := "d337d63625bb447b10fe310d20b230d5bf85959c87fa44a72d23416aa99d6b1a", func := "provost/provostlaw08.NetFull", spec := "netFull", plainKeys := false, apart := false }
def NetFullSaid : Prop := netFullRow.holds Try.pinned (OpenSpec.ofChange netFullSpec)

/-- ITS FALSE NEIGHBOUR: 'it returns false'. Refute it at one input. -/
def netFullWrong : ChangeSpec := { name := "netFull", fn := fun _ => fun
  | [d1, d2] => { results := [.lit (.bool false)], args := [d1, d2] }
  | _ => none }
def NetFullWrongFalsely : Prop := netFullRow.holds Try.pinned (OpenSpec.ofChange netFullWrong)

/-- 'provostlaw14.RlogMatch': WHATEVER THE INPUT: true; the input reads as it did. -/
def rlogMatchSpec : ChangeSpec := { name := "rlogMatch", fn := fun _ => fun
  | [d1, d2, d3, d4] => { results := [.lit (.bool true)], args := [d1, d2, d3, d4] }
  | _ => none }
def rlogMatchRow : OpenClaim := { program := "ytidamnmfobblaaa", sum := "d337d63625bb447b10fe310d20b230d5bf85959c87fa44a72d23416aa99d6b1a", func := "provost/provostlaw14.RlogMatch", spec := "rlogMatch", plainKeys := false, apart := false }
def RlogMatchSaid : Prop := rlogMatchRow.holds Try.pinned (OpenSpec.ofChange rlogMatchSpec)

/-- ITS FALSE NEIGHBOUR: 'it returns false'. Refute it at one input. -/
def rlogMatchWrong : ChangeSpec := { name := "rlogMatch", fn := fun _ => fun
  | [d1, d2, d3, d4] => { results := [.lit (.bool false)], args := [d1, d2, d3, d4] }
  | _ => none }
def RlogMatchWrongFalsely : Prop := rlogMatchRow.holds Try.pinned (OpenSpec.ofChange rlogMatchWrong)

/-- 'provostlaw14.RlogCuts': WHATEVER THE INPUT: true; the input reads as it did. -/
def rlogCutsSpec : ChangeSpec := { name := "rlogCuts", fn := fun _ => fun
  | [d1, d2, d3, d4, d5] => { results := [.lit (.bool true)], args := [d1, d2, d3, d4, d5] }
  | _ => none }
def rlogCutsRow : OpenClaim := { program := "ytidamnmfobblaaa", sum := "d337d63625bb447b10fe310d20b230d5bf85959c87fa44a72d23416aa99d6b1a", func := "provost/provostlaw14.RlogCuts", spec := "rlogCuts", plainKeys := false, apart := false }
def RlogCutsSaid : Prop := rlogCutsRow.holds Try.pinned (OpenSpec.ofChange rlogCutsSpec)

/-- ITS FALSE NEIGHBOUR: 'it returns false'. Refute it at one input. -/
def rlogCutsWrong : ChangeSpec := { name := "rlogCuts", fn := fun _ => fun
  | [d1, d2, d3, d4, d5] => { results := [.lit (.bool false)], args := [d1, d2, d3, d4, d5] }
  | _ => none }
def RlogCutsWrongFalsely : Prop := rlogCutsRow.holds Try.pinned (OpenSpec.ofChange rlogCutsWrong)

/-- 'provostlaw14.RlogAgain': WHATEVER THE INPUT: true; the input reads as it did. -/
def rlogAgainSpec : ChangeSpec := { name := "rlogAgain", fn := fun _ => fun
  | [d1, d2, d3, d4] => { results := [.lit (.bool true)], args := [d1, d2, d3, d4] }
  | _ => none }
def rlogAgainRow : OpenClaim := { program := "ytidamnmfobblaaa", sum := "d337d63625bb447b10fe310d20b230d5bf85959c87fa44a72d23416aa99d6b1a", func := "provost/provostlaw14.RlogAgain", spec := "rlogAgain", plainKeys := false, apart := false }
def RlogAgainSaid : Prop := rlogAgainRow.holds Try.pinned (OpenSpec.ofChange rlogAgainSpec)

/-- ITS FALSE NEIGHBOUR: 'it returns false'. Refute it at one input. -/
def rlogAgainWrong : ChangeSpec := { name := "rlogAgain", fn := fun _ => fun
  | [d1, d2, d3, d4] => { results := [.lit (.bool false)], args := [d1, d2, d3, d4] }
  | _ => none }
def RlogAgainWrongFalsely : Prop := rlogAgainRow.holds Try.pinned (OpenSpec.ofChange rlogAgainWrong)

/-- 'provostlaw14.RlogNewer': WHATEVER THE INPUT: true; the input reads as it did. -/
def rlogNewerSpec : ChangeSpec := { name := "rlogNewer", fn := fun _ => fun
  | [d1, d2, d3] => { results := [.lit (.bool true)], args := [d1, d2, d3] }
  | _ => none }
def rlogNewerRow : OpenClaim := { program := "ytidamnmfobblaaa", sum := "d337d63625bb447b10fe310d20b230d5bf85959c87fa44a72d23416aa99d6b1a", func := "provost/provostlaw14.RlogNewer", spec := "rlogNewer", unfollowed := true, recurses := true, plainKeys := false, apart := false }
def RlogNewerSaid : Prop := rlogNewerRow.holds Try.pinned (OpenSpec.ofChange rlogNewerSpec)

/-- ITS FALSE NEIGHBOUR: 'it returns false'. Refute it at one input. -/
def rlogNewerWrong : ChangeSpec := { name := "rlogNewer", fn := fun _ => fun
  | [d1, d2, d3] => { results := [.lit (.bool false)], args := [d1, d2, d3] }
  | _ => none }
def RlogNewerWrongFalsely : Prop := rlogNewerRow.holds Try.pinned (OpenSpec.ofChange rlogNewerWrong)

/-- 'provostlaw14.RlogParts': WHATEVER THE INPUT: true; the input reads as it did. -/
def rlogPartsSpec : ChangeSpec := { name := "rlogParts", fn := fun _ => fun
  | [d1, d2, d3, d4, d5, d6] => { results := [.lit (.bool true)], args := [d1, d2, d3, d4, d5, d6] }
  | _ => none }
def rlogPartsRow : OpenClaim := { program := "ytidamnmfobblaaa", sum := "d337d63625bb447b10fe310d20b230d5bf85959c87fa44a72d23416aa99d6b1a", func := "provost/provostlaw14.RlogParts", spec := "rlogParts", plainKeys := false, apart := false }
def RlogPartsSaid : Prop := rlogPartsRow.holds Try.pinned (OpenSpec.ofChange rlogPartsSpec)

/-- ITS FALSE NEIGHBOUR: 'it returns false'. Refute it at one input. -/
def rlogPartsWrong : ChangeSpec := { name := "rlogParts", fn := fun _ => fun
  | [d1, d2, d3, d4, d5, d6] => { results := [.lit (.bool false)], args := [d1, d2, d3, d4, d5, d6] }
  | _ => none }
def RlogPartsWrongFalsely : Prop := rlogPartsRow.holds Try.pinned (OpenSpec.ofChange rlogPartsWrong)

/-- 'provostlaw14.RlogDoes': WHATEVER THE INPUT: true; the input reads as it did. -/
def rlogDoesSpec : ChangeSpec := { name := "rlogDoes", fn := fun _ => fun
  | [d1, d2, d3, d4] => { results := [.lit (.bool true)], args := [d1, d2, d3, d4] }
  | _ => none }
def rlogDoesRow : OpenClaim := { program := "ytidamnmfobblaaa", sum := "d337d63625bb447b10fe310d20b230d5bf85959c87fa44a72d23416aa99d6b1a", func := "provost/provostlaw14.RlogDoes", spec := "rlogDoes", plainKeys := false, apart := false }
def RlogDoesSaid : Prop := rlogDoesRow.holds Try.pinned (OpenSpec.ofChange rlogDoesSpec)

/-- ITS FALSE NEIGHBOUR: 'it returns false'. Refute it at one input. -/
def rlogDoesWrong : ChangeSpec := { name := "rlogDoes", fn := fun _ => fun
  | [d1, d2, d3, d4] => { results := [.lit (.bool false)], args := [d1, d2, d3, d4] }
  | _ => none }
def RlogDoesWrongFalsely : Prop := rlogDoesRow.holds Try.pinned (OpenSpec.ofChange rlogDoesWrong)

/- THE SECOND FORM. 'bulk': how many values and letters a reading holds, each counted each time it is reached (what is shared counts as often as it is met; a slice's spare places count too). A statement '..UptoSaid' is the law's where the arguments, and the package variables that the reading takes, are together of bulk at most 1048576: NARROWER than '..Said'. Prove '..Said' where nothing that the law and all that it calls make is longer than what came in: it says more and counts as full. Else prove '..UptoSaid'. A law counts once. -/
mutual
def uptoBulk {H : Type} : DataW H → Nat
  | .lit (.string bytes) => bytes.length + 1
  | .lit _ => 1
  | .nil => 1
  | .ptr d => uptoBulk d + 1
  | .slice elems spare => uptoBulkAll elems + uptoBulkAll spare + 1
  | .agg parts => uptoBulkAll parts + 1
  | .iface _ d => uptoBulk d + 1
  | .map entries => uptoBulkEntries entries + 1
  | .held _ => 1
def uptoBulkAll {H : Type} : List (DataW H) → Nat
  | [] => 0
  | d :: r => uptoBulk d + uptoBulkAll r
def uptoBulkEntries {H : Type} : List (Lit × DataW H) → Nat
  | [] => 0
  | x :: r => uptoBulkEntry x + uptoBulkEntries r
def uptoBulkEntry {H : Type} : Lit × DataW H → Nat
  | (.string bytes, d) => bytes.length + uptoBulk d + 1
  | (_, d) => uptoBulk d + 1
 end
def uptoSmall : (H : Type) → List (DataW H) → Bool := fun _ ds => decide (uptoBulkAll ds ≤ 1048576)
def OpenSpec.upto (s : _root_.Go.ChangeSpec) : _root_.Go.OpenSpec := { _root_.Go.OpenSpec.ofChange s with cond := some uptoSmall }

/-- 'provostlaw08.NetDoes', WHERE WHAT IT READS IS OF BULK AT MOST 1048576: true; the input reads as it did. -/
def netDoesUptoRow : OpenClaim := { program := "ytidamnmfobblaaa", sum := "d337d63625bb447b10fe310d20b230d5bf85959c87fa44a72d23416aa99d6b1a", func := "provost/provostlaw08.NetDoes", spec := "netDoes", plainKeys := false, apart := false, narrowed := true }
def NetDoesUptoSaid : Prop := netDoesUptoRow.holds Try.pinned (OpenSpec.upto netDoesSpec)

/-- 'provostlaw08.NetKeeps', WHERE WHAT IT READS IS OF BULK AT MOST 1048576: true; the input reads as it did. -/
def netKeepsUptoRow : OpenClaim := { program := "ytidamnmfobblaaa", sum := "d337d63625bb447b10fe310d20b230d5bf85959c87fa44a72d23416aa99d6b1a", func := "provost/provostlaw08.NetKeeps", spec := "netKeeps", plainKeys := false, apart := false, narrowed := true }
def NetKeepsUptoSaid : Prop := netKeepsUptoRow.holds Try.pinned (OpenSpec.upto netKeepsSpec)

/-- 'provostlaw08.NetSides', WHERE WHAT IT READS IS OF BULK AT MOST 1048576: true; the input reads as it did. -/
def netSidesUptoRow : OpenClaim := { program := "ytidamnmfobblaaa", sum := "d337d63625bb447b10fe310d20b230d5bf85959c87fa44a72d23416aa99d6b1a", func := "provost/provostlaw08.NetSides", spec := "netSides", plainKeys := false, apart := false, narrowed := true }
def NetSidesUptoSaid : Prop := netSidesUptoRow.holds Try.pinned (OpenSpec.upto netSidesSpec)

/-- 'provostlaw08.NetWay', WHERE WHAT IT READS IS OF BULK AT MOST 1048576: true; the input reads as it did. -/
def netWayUptoRow : OpenClaim := { program := "ytidamnmfobblaaa", sum := "d337d63625bb447b10fe310d20b230d5bf85959c87fa44a72d23416aa99d6b1a", func := "provost/provostlaw08.NetWay", spec := "netWay", plainKeys := false, apart := false, narrowed := true }
def NetWayUptoSaid : Prop := netWayUptoRow.holds Try.pinned (OpenSpec.upto netWaySpec)

/-- 'provostlaw08.NetFull', WHERE WHAT IT READS IS OF BULK AT MOST 1048576: true; the input reads as it did. -/
def netFullUptoRow : OpenClaim := { program := "ytidamnmfobblaaa", sum := "d337d63625bb447b10fe310d20b230d5bf85959c87fa44a72d23416aa99d6b1a", func := "provost/provostlaw08.NetFull", spec := "netFull", plainKeys := false, apart := false, narrowed := true }
def NetFullUptoSaid : Prop := netFullUptoRow.holds Try.pinned (OpenSpec.upto netFullSpec)

/-- 'provostlaw14.RlogMatch', WHERE WHAT IT READS IS OF BULK AT MOST 1048576: true; the input reads as it did. -/
def rlogMatchUptoRow : OpenClaim := { program := "ytidamnmfobblaaa", sum := "d337d63625bb447b10fe310d20b230d5bf85959c87fa44a72d23416aa99d6b1a", func := "provost/provostlaw14.RlogMatch", spec := "rlogMatch", plainKeys := false, apart := false, narrowed := true }
def RlogMatchUptoSaid : Prop := rlogMatchUptoRow.holds Try.pinned (OpenSpec.upto rlogMatchSpec)

/-- 'provostlaw14.RlogCuts', WHERE WHAT IT READS IS OF BULK AT MOST 1048576: true; the input reads as it did. -/
def rlogCutsUptoRow : OpenClaim := { program := "ytidamnmfobblaaa", sum := "d337d63625bb447b10fe310d20b230d5bf85959c87fa44a72d23416aa99d6b1a", func := "provost/provostlaw14.RlogCuts", spec := "rlogCuts", plainKeys := false, apart := false, narrowed := true }
def RlogCutsUptoSaid : Prop := rlogCutsUptoRow.holds Try.pinned (OpenSpec.upto rlogCutsSpec)

/-- 'provostlaw14.RlogAgain', WHERE WHAT IT READS IS OF BULK AT MOST 1048576: true; the input reads as it did. -/
def rlogAgainUptoRow : OpenClaim := { program := "ytidamnmfobblaaa", sum := "d337d63625bb447b10fe310d20b230d5bf85959c87fa44a72d23416aa99d6b1a", func := "provost/provostlaw14.RlogAgain", spec := "rlogAgain", plainKeys := false, apart := false, narrowed := true }
def RlogAgainUptoSaid : Prop := rlogAgainUptoRow.holds Try.pinned (OpenSpec.upto rlogAgainSpec)

/-- 'provostlaw14.RlogNewer', WHERE WHAT IT READS IS OF BULK AT MOST 1048576: true; the input reads as it did. -/
def rlogNewerUptoRow : OpenClaim := { program := "ytidamnmfobblaaa", sum := "d337d63625bb447b10fe310d20b230d5bf85959c87fa44a72d23416aa99d6b1a", func := "provost/provostlaw14.RlogNewer", spec := "rlogNewer", unfollowed := true, recurses := true, plainKeys := false, apart := false, narrowed := true }
def RlogNewerUptoSaid : Prop := rlogNewerUptoRow.holds Try.pinned (OpenSpec.upto rlogNewerSpec)

/-- 'provostlaw14.RlogParts', WHERE WHAT IT READS IS OF BULK AT MOST 1048576: true; the input reads as it did. -/
def rlogPartsUptoRow : OpenClaim := { program := "ytidamnmfobblaaa", sum := "d337d63625bb447b10fe310d20b230d5bf85959c87fa44a72d23416aa99d6b1a", func := "provost/provostlaw14.RlogParts", spec := "rlogParts", plainKeys := false, apart := false, narrowed := true }
def RlogPartsUptoSaid : Prop := rlogPartsUptoRow.holds Try.pinned (OpenSpec.upto rlogPartsSpec)

/-- 'provostlaw14.RlogDoes', WHERE WHAT IT READS IS OF BULK AT MOST 1048576: true; the input reads as it did. -/
def rlogDoesUptoRow : OpenClaim := { program := "ytidamnmfobblaaa", sum := "d337d63625bb447b10fe310d20b230d5bf85959c87fa44a72d23416aa99d6b1a", func := "provost/provostlaw14.RlogDoes", spec := "rlogDoes", plainKeys := false, apart := false, narrowed := true }
def RlogDoesUptoSaid : Prop := rlogDoesUptoRow.holds Try.pinned (OpenSpec.upto rlogDoesSpec)

end Rows
end Go.Proofs.Ytidamnmfobblaaa
