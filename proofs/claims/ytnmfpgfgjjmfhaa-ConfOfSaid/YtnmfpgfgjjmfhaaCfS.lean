/- the sort of int64s, as a specification . -/
import Derived.Test.YtnmfpgfgjjmfhaaCf3
set_option linter.unusedVariables false
set_option linter.unusedSimpArgs false
set_option maxRecDepth 100000
namespace Go.Proofs.Ytnmfpgfgjjmfhaa
open Go
attribute [local irreducible] Exit.then Exit.inBlock Code.wp runS bodyPost postF J runT cutQ cutR Tr Sat blk Sl Old Star Ex Pu
def srt (l : List Int) : List Int := l.mergeSort fun x y => decide (x ≤ y)
/-- what the library's sort does -/
def SortS : Prop := ∀ (a : Option Addr) (cap : Nat) (ls : List Int), ls.length ≤ 1000000 → Tr Try.prog 25 [.slice a ls.length cap] [Sl 2 a cap ls] (fun v M => v = .tuple #[] ∧ M = [Sl 2 a cap (srt ls)])
end Go.Proofs.Ytnmfpgfgjjmfhaa
