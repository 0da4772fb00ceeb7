/- Entries, read as arguments. -/
import Derived.Test.YtidamnmfobblaaaRl1
import Derived.Test.YtidamnmfobblaaaSr
import Derived.Test.YtidamnmfobblaaaRows
set_option linter.unusedVariables false
set_option linter.unusedSimpArgs false
set_option maxRecDepth 100000
namespace Go.Proofs.Ytidamnmfobblaaa
open Go
attribute [local irreducible] Exit.then Exit.inBlock Code.wp runS bodyPost postF J runT cutQ cutR Tr Sat blk Sl Old Star Ex Pu
open Go.ChangeShapes Go.WideShapes Go.ChangeAt Go.RowKit

theorem ownT : ownKnob Try.prog.godebug = none := by kernel_rfl
theorem laidT : laidOutB Try.prog = true := by kernel_rfl

instance : Rd Try.prog 53 Ent (fun _ _ => True) := ⟨fun {H enc w base spare held n cs x} h => by
  obtain ⟨m, hl, hf⟩ := struct_at (TyC.und (P := Try.prog) (t := 53)) (k := 2) (by kernel_rfl) h
  obtain ⟨a, b, rfl⟩ := list2 hl
  obtain ⟨_, h0⟩ := hf 0 _ rfl 1 (by kernel_rfl)
  obtain ⟨_, h1⟩ := hf 1 _ rfl 1 (by kernel_rfl)
  obtain ⟨t, e0, _⟩ := rd_int (TyC.und (P := Try.prog) (t := 2)) h0
  obtain ⟨s, e1, _⟩ := DataW.trod_string (TyC.und (P := Try.prog) (t := 9)) h1
  injection e0 with e0; injection e1 with e1
  subst e0 e1
  exact ⟨⟨t, s⟩, rfl, trivial⟩⟩

theorem list6 {α : Type} {l : List α} (h : l.length = 6) : ∃ a b c d e f, l = [a, b, c, d, e, f] := by
  match l, h with
  | [a, b, c, d, e, f], _ => exact ⟨a, b, c, d, e, f, rfl⟩

end Go.Proofs.Ytidamnmfobblaaa
