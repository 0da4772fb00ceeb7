/- conf: what the arguments' reading wants. -/
import Derived.Test.YtnmfpgfgjjmfhaaSv
import Derived.Test.YtnmfpgfgjjmfhaaSr
import Derived.Test.YtnmfpgfgjjmfhaaRows
import Derived.Test.YtnmfpgfgjjmfhaaTy
set_option linter.unusedVariables false
set_option linter.unusedSimpArgs false
set_option maxRecDepth 100000
namespace Go.Proofs.Ytnmfpgfgjjmfhaa
open Go
attribute [local irreducible] Exit.then Exit.inBlock Code.wp runS bodyPost postF J runT cutQ cutR Tr Sat blk Sl Old Star Ex Pu
open Go.ChangeShapes Go.WideShapes Go.ChangeAt Go.RowKit

theorem ownT : ownKnob Try.prog.godebug = none := by kernel_rfl
theorem laidT : laidOutB Try.prog = true := by kernel_rfl

instance : Rd Try.prog 2 Int (fun _ _ => True) := ⟨fun {H enc w base spare held n cs x} h => by
  obtain ⟨t, rfl, hw⟩ := rd_int (TyC.und (P := Try.prog) (t := 2)) h
  exact ⟨t, rfl, trivial⟩⟩

end Go.Proofs.Ytnmfpgfgjjmfhaa
