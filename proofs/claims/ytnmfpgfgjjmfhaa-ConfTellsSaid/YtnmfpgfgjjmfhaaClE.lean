/- Proved: the law ConfTells answers true for every input, and what it reads stands behind the call as it did. No condition. -/
import Derived.Test.YtnmfpgfgjjmfhaaCl7
import Derived.Test.YtnmfpgfgjjmfhaaClI
set_option linter.unusedVariables false
set_option linter.unusedSimpArgs false
set_option maxRecDepth 100000
namespace Go.Proofs.Ytnmfpgfgjjmfhaa
open Go
attribute [local irreducible] Exit.then Exit.inBlock Code.wp runS bodyPost postF J runT cutQ cutR Tr Sat blk Sl Old Star Ex Pu
open Go.ChangeShapes Go.WideShapes Go.ChangeAt Go.RowKit

set_option maxRecDepth 100000 in
theorem confTells_lifted (os : Os) (started : os.Started) (H : Type) (enc : TypeId × Value → H) :
    ReturnsInHanded {} Try.checked os 3 .any (Rows.confTellsSpec.pre6 enc Try.prog Try.f3 Rows.confTellsRow.domain false) (Rows.confTellsSpec.post enc Try.prog Try.f3 false true false false) := by
  refine returnsInHanded_of_change (C := Try.checked) ownT started (by kernel_rfl) Try.func3
    (ChangeSpec.witness6 (enc := enc) (C := Try.checked) false ⟨#[], #[.int .i64 0, .int .i64 0, .slice none 0 0], []⟩ 8 (by kernel_rfl) (by kernel_rfl) (by kernel_rfl) (by kernel_rfl)) ?_
  intro W base args ds gs before hval hW hcnd _
  refine contract_of laidT (by kernel_rfl) rfl rfl (TyC.und (P := Try.prog) (t := 4)) (fun ds h => ?_) hW ?_
  · obtain ⟨a, b, c, rfl⟩ := list3 (h.trans (by rfl))
    exact ⟨rfl, rfl, rfl⟩
  obtain ⟨p, q, hA, _⟩ := hW
  rw [Try.params3] at hA hval
  obtain ⟨v0, vs0, d0, ds0, p0, q0, hargs, rfl, rfl, h0, r0⟩ := trodAll_cons hA
  obtain ⟨v1, vs1, d1, ds1, p1, q1, rfl, rfl, rfl, h1, r1⟩ := trodAll_cons r0
  obtain ⟨v2, vs2, d2, ds2, p2, q2, rfl, rfl, rfl, h2, r2⟩ := trodAll_cons r1
  obtain ⟨rfl, rfl, rfl⟩ := trodAll_nil r2
  obtain rfl : args = #[v0, v1, v2] := by cases args; simp_all
  obtain ⟨m, rfl, _, _, w0⟩ := open_int (TyC.und (P := Try.prog) (t := 2)) (hval 0 _ _ rfl rfl) h0
  obtain ⟨n, rfl, _, _, w1⟩ := open_int (TyC.und (P := Try.prog) (t := 2)) (hval 1 _ _ rfl rfl) h1
  obtain ⟨am, cm, mt, rfl, hv1, hok1, hlm1, _⟩ := rd_slice (α := Int) (TyC.und (P := Try.prog) (t := 22)) (by kernel_rfl) (by decide) (hval 2 _ _ rfl rfl) h2
  exact confTells_spec W m n am cm mt hv1 (Nat.le_trans hlm1 (by decide))

theorem confTells_over : Rows.confTellsRow.holds Try.pinned (OpenSpec.ofChange Rows.confTellsSpec) :=
  OpenClaim.holds_of_wide 3 Try.f3 rfl rfl rfl rfl rfl rfl rfl ⟨rfl, rfl, rfl, rfl, rfl⟩ rfl rfl rfl rfl rfl (by kernel_rfl) Try.func3 (by kernel_rfl)
    (of_decide_eq_true (by kernel_rfl)) (by unfold Func.isWrapper; first | (rw [if_pos (by decide +kernel)]; kernel_rfl) | (rw [if_neg (by decide +kernel)]; exact ⟨rfl, rfl⟩))
    (fun os started H enc _ => confTells_lifted os started H enc)
/-- the statement -/
theorem confTells_proved : Rows.ConfTellsSaid := confTells_over

end Go.Proofs.Ytnmfpgfgjjmfhaa
