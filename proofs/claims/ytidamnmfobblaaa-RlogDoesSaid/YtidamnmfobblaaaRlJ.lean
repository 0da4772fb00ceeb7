/- Acts on logs, read as arguments. -/
import Derived.Test.YtidamnmfobblaaaRlI
set_option linter.unusedVariables false
set_option linter.unusedSimpArgs false
set_option maxRecDepth 100000
namespace Go.Proofs.Ytidamnmfobblaaa
open Go
attribute [local irreducible] Exit.then Exit.inBlock Code.wp runS bodyPost postF J runT cutQ cutR Tr Sat blk Sl Old Star Ex Pu
open Go.ChangeShapes Go.WideShapes Go.ChangeAt Go.RowKit

/-- an act, as its cells stand -/
structure RAct where
  k : Int
  a : Int
  b : Int
  la : Option Addr
  n : Nat
  lc : Nat
instance : Enc RAct := ⟨fun x => [.int .i64 x.k, .int .i64 x.a, .int .i64 x.b, .slice x.la x.n x.lc], 4, fun _ => rfl, by decide, fun x u hu => by simp at hu; rcases hu with rfl | rfl | rfl | rfl <;> rfl⟩
def RActOk (w : World) (x : RAct) : Prop :=
  (-9223372036854775808 ≤ x.k ∧ x.k ≤ 9223372036854775807) ∧ (-9223372036854775808 ≤ x.a ∧ x.a ≤ 9223372036854775807) ∧ (-9223372036854775808 ≤ x.b ∧ x.b ≤ 9223372036854775807) ∧ ∃ xl : List Ent, x.n = xl.length ∧ Vw w x.la xl ∧ xl.length ≤ x.lc ∧ x.lc ≤ maxLen

instance : Rd Try.prog 68 RAct RActOk := ⟨fun {H enc w base spare held n cs x} h => by
  obtain ⟨m, hl, hf⟩ := struct_at (TyC.und (P := Try.prog) (t := 68)) (k := 4) (by kernel_rfl) h
  obtain ⟨a, b, c, d, rfl⟩ := list4 hl
  obtain ⟨_, h0⟩ := hf 0 _ rfl 1 (by kernel_rfl)
  obtain ⟨_, h1⟩ := hf 1 _ rfl 1 (by kernel_rfl)
  obtain ⟨_, h2⟩ := hf 2 _ rfl 1 (by kernel_rfl)
  obtain ⟨_, h3⟩ := hf 3 _ rfl 1 (by kernel_rfl)
  obtain ⟨k, e0, w0⟩ := rd_int (TyC.und (P := Try.prog) (t := 3)) h0
  obtain ⟨i, e1, w1⟩ := rd_int (TyC.und (P := Try.prog) (t := 2)) h1
  obtain ⟨j, e2, w2⟩ := rd_int (TyC.und (P := Try.prog) (t := 2)) h2
  obtain ⟨la, lc, xl, e3, hv, _, _, hl1, hl2⟩ := rd_slice_in (α := Ent) (TyC.und (P := Try.prog) (t := 49)) (by kernel_rfl) (by decide) h3
  injection e0 with e0; injection e1 with e1; injection e2 with e2; injection e3 with e3
  subst e0 e1 e2 e3
  exact ⟨⟨k, i, j, la, xl.length, lc⟩, rfl, bounds_i64 w0, bounds_i64 w1, bounds_i64 w2, xl, rfl, hv, hl1, hl2⟩⟩

end Go.Proofs.Ytidamnmfobblaaa
