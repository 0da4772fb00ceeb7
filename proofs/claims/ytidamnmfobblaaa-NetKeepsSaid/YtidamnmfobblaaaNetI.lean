/- Acts and letters, read as arguments. -/
import Derived.Test.YtidamnmfobblaaaNet7
import Derived.Test.YtidamnmfobblaaaSr
import Derived.Test.YtidamnmfobblaaaRows
set_option linter.unusedVariables false
set_option linter.unusedSimpArgs false
set_option maxRecDepth 100000
namespace Go.Proofs.Ytidamnmfobblaaa
open Go
attribute [local irreducible] Exit.then Exit.inBlock Code.wp runS bodyPost postF J runT cutQ cutR Tr Sat blk Sl Old Star Ex Pu
open Go.ChangeShapes Go.WideShapes Go.ChangeAt Go.RowKit

theorem ownT : ownKnob Try.prog.godebug = none := by kernel_rfl
theorem laidT : laidOutB Try.prog = true := by kernel_rfl

instance : Rd Try.prog 32 Ltr (fun _ _ => True) := ⟨fun {H enc w base spare held n cs x} h => by
  obtain ⟨m, hl, hf⟩ := struct_at (TyC.und (P := Try.prog) (t := 32)) (k := 3) (by kernel_rfl) h
  obtain ⟨a, b, c, rfl⟩ := list3 hl
  obtain ⟨_, h0⟩ := hf 0 _ rfl 1 (by kernel_rfl)
  obtain ⟨_, h1⟩ := hf 1 _ rfl 1 (by kernel_rfl)
  obtain ⟨_, h2⟩ := hf 2 _ rfl 1 (by kernel_rfl)
  obtain ⟨f, e0, _⟩ := rd_int (TyC.und (P := Try.prog) (t := 3)) h0
  obtain ⟨t, e1, _⟩ := rd_int (TyC.und (P := Try.prog) (t := 3)) h1
  obtain ⟨s, e2, _⟩ := DataW.trod_string (TyC.und (P := Try.prog) (t := 9)) h2
  injection e0 with e0; injection e1 with e1; injection e2 with e2
  subst e0 e1 e2
  exact ⟨⟨f, t, s⟩, rfl, trivial⟩⟩

instance : Rd Try.prog 34 Act (fun _ => ActOk) := ⟨fun {H enc w base spare held n cs x} h => by
  obtain ⟨m, hl, hf⟩ := struct_at (TyC.und (P := Try.prog) (t := 34)) (k := 5) (by kernel_rfl) h
  obtain ⟨a, b, c, d, e, rfl⟩ := list5 hl
  obtain ⟨_, h0⟩ := hf 0 _ rfl 1 (by kernel_rfl)
  obtain ⟨_, h1⟩ := hf 1 _ rfl 1 (by kernel_rfl)
  obtain ⟨_, h2⟩ := hf 2 _ rfl 3 (by kernel_rfl)
  obtain ⟨f, e0, _⟩ := rd_int (TyC.und (P := Try.prog) (t := 3)) h0
  obtain ⟨t, e1, w1⟩ := rd_int (TyC.und (P := Try.prog) (t := 3)) h1
  obtain ⟨l, e2, _⟩ := Rd.rd (P := Try.prog) (t := 32) (α := Ltr) h2
  injection e0 with e0; injection e1 with e1; injection e2 with e2 e3; injection e3 with e3 e4; injection e4 with e4 e5
  subst e0 e1 e2 e3 e4
  exact ⟨⟨f, t, l⟩, rfl, bounds_i64 w1⟩⟩


end Go.Proofs.Ytidamnmfobblaaa
