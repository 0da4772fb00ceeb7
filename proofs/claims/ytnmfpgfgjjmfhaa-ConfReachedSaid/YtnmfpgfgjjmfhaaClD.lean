/- Proved: the law ConfReached answers true for every input, and what it reads stands behind the call as it did. No condition. -/
import Derived.Test.YtnmfpgfgjjmfhaaCl4
import Derived.Test.YtnmfpgfgjjmfhaaClI
set_option linter.unusedVariables false
set_option linter.unusedSimpArgs false
set_option maxRecDepth 100000
namespace Go.Proofs.Ytnmfpgfgjjmfhaa
open Go
attribute [local irreducible] Exit.then Exit.inBlock Code.wp runS bodyPost postF J runT cutQ cutR Tr Sat blk Sl Old Star Ex Pu
open Go.ChangeShapes Go.WideShapes Go.ChangeAt Go.RowKit

set_option maxRecDepth 100000 in
theorem confReached_lifted (os : Os) (started : os.Started) (H : Type) (enc : TypeId × Value → H) :
    ReturnsInHanded {} Try.checked os 6 .any (Rows.confReachedSpec.pre6 enc Try.prog Try.f6 Rows.confReachedRow.domain false) (Rows.confReachedSpec.post enc Try.prog Try.f6 false true false false) := by
  refine returnsInHanded_of_change (C := Try.checked) ownT started (by kernel_rfl) Try.func6
    (ChangeSpec.witness6 (enc := enc) (C := Try.checked) false ⟨#[], #[.int .i64 0, .slice none 0 0, .int .u8 0, .int .u16 0], []⟩ 8 (by kernel_rfl) (by kernel_rfl) (by kernel_rfl) (by kernel_rfl)) ?_
  intro W base args ds gs before hval hW hcnd _
  refine contract_of laidT (by kernel_rfl) rfl rfl (TyC.und (P := Try.prog) (t := 4)) (fun ds h => ?_) hW ?_
  · obtain ⟨a, b, c, d, rfl⟩ := list4 (h.trans (by rfl))
    exact ⟨rfl, rfl, rfl⟩
  obtain ⟨p, q, hA, _⟩ := hW
  rw [Try.params6] at hA hval
  obtain ⟨v0, vs0, d0, ds0, p0, q0, hargs, rfl, rfl, h0, r0⟩ := trodAll_cons hA
  obtain ⟨v1, vs1, d1, ds1, p1, q1, rfl, rfl, rfl, h1, r1⟩ := trodAll_cons r0
  obtain ⟨v2, vs2, d2, ds2, p2, q2, rfl, rfl, rfl, h2, r2⟩ := trodAll_cons r1
  obtain ⟨v3, vs3, d3, ds3, p3, q3, rfl, rfl, rfl, h3, r3⟩ := trodAll_cons r2
  obtain ⟨rfl, rfl, rfl⟩ := trodAll_nil r3
  obtain rfl : args = #[v0, v1, v2, v3] := by cases args; simp_all
  obtain ⟨m, rfl, _, _, w0⟩ := open_int (TyC.und (P := Try.prog) (t := 2)) (hval 0 _ _ rfl rfl) h0
  obtain ⟨am, cm, mt, rfl, hv1, hok1, hlm1, _⟩ := rd_slice (α := Int) (TyC.und (P := Try.prog) (t := 22)) (by kernel_rfl) (by decide) (hval 1 _ _ rfl rfl) h1
  obtain ⟨who, rfl, _, _, w2⟩ := open_int (TyC.und (P := Try.prog) (t := 5)) (hval 2 _ _ rfl rfl) h2
  obtain ⟨more, rfl, _, _, w3⟩ := open_int (TyC.und (P := Try.prog) (t := 35)) (hval 3 _ _ rfl rfl) h3
  have b2 := bounds_u8 w2
  have b3 := bounds_u16 w3
  exact confReached_spec W m am cm mt who more hv1 (Nat.le_trans hlm1 (by decide)) (by omega) (by omega)

theorem confReached_over : Rows.confReachedRow.holds Try.pinned (OpenSpec.ofChange Rows.confReachedSpec) :=
  OpenClaim.holds_of_wide 6 Try.f6 rfl rfl rfl rfl rfl rfl rfl ⟨rfl, rfl, rfl, rfl, rfl⟩ rfl rfl rfl rfl rfl (by kernel_rfl) Try.func6 (by kernel_rfl)
    (of_decide_eq_true (by kernel_rfl)) (by unfold Func.isWrapper; first | (rw [if_pos (by decide +kernel)]; kernel_rfl) | (rw [if_neg (by decide +kernel)]; exact ⟨rfl, rfl⟩))
    (fun os started H enc _ => confReached_lifted os started H enc)
/-- the statement -/
theorem confReached_proved : Rows.ConfReachedSaid := confReached_over

end Go.Proofs.Ytnmfpgfgjjmfhaa
