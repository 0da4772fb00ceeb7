/- Proved: the law NetSides answers true for every input, and what it reads stands behind the call as it did. No condition. -/
import Derived.Test.YtidamnmfobblaaaNet11
import Derived.Test.YtidamnmfobblaaaNetI
set_option linter.unusedVariables false
set_option linter.unusedSimpArgs false
set_option maxRecDepth 100000
namespace Go.Proofs.Ytidamnmfobblaaa
open Go
attribute [local irreducible] Exit.then Exit.inBlock Code.wp runS bodyPost postF J runT cutQ Tr Sat blk Sl Old Star Ex Pu
open Go.ChangeShapes Go.WideShapes Go.ChangeAt Go.RowKit

set_option maxRecDepth 100000 in
theorem netSides_lifted (os : Os) (started : os.Started) (H : Type) (enc : TypeId × Value → H) :
    ReturnsInHanded {} Try.checked os 5 .any (Rows.netSidesSpec.pre6 enc Try.prog Try.f5 Rows.netSidesRow.domain false) (Rows.netSidesSpec.post enc Try.prog Try.f5 false true false false) := by
  refine returnsInHanded_of_change (C := Try.checked) ownT started (by kernel_rfl) Try.func5
    (ChangeSpec.witness6 (enc := enc) (C := Try.checked) false ⟨#[], #[.slice none 0 0, .int .i64 0], []⟩ 8 (by kernel_rfl) (by kernel_rfl) (by kernel_rfl) (by kernel_rfl)) ?_
  intro W base args ds gs before hval hW hcnd _
  refine contract_of laidT (by kernel_rfl) rfl rfl (TyC.und (P := Try.prog) (t := 4)) (fun ds h => ?_) hW ?_
  · obtain ⟨a, b, rfl⟩ := list2 (h.trans (by rfl))
    exact ⟨rfl, rfl, rfl⟩
  obtain ⟨p, q, hA, _⟩ := hW
  rw [Try.params5] at hA hval
  obtain ⟨v0, vs0, d0, ds0, p0, q0, hargs, rfl, rfl, h0, r0⟩ := trodAll_cons hA
  obtain ⟨v1, vs1, d1, ds1, p1, q1, rfl, rfl, rfl, h1, r1⟩ := trodAll_cons r0
  obtain ⟨rfl, rfl, rfl⟩ := trodAll_nil r1
  obtain rfl : args = #[v0, v1] := by cases args; simp_all
  obtain ⟨a, cap, ls, rfl, hv, hok, hlm, _⟩ := rd_slice (α := Ltr) (TyC.und (P := Try.prog) (t := 27)) (by kernel_rfl) (by decide) (hval 0 _ _ rfl rfl) h0
  obtain ⟨s, rfl, _, _, hw⟩ := open_int (TyC.und (P := Try.prog) (t := 3)) (hval 1 _ _ rfl rfl) h1
  exact netSides_spec W a cap ls s hv (Nat.le_trans hlm (by decide)) (bounds_i64 hw)

theorem netSides_over : Rows.netSidesRow.holds Try.pinned (OpenSpec.ofChange Rows.netSidesSpec) :=
  OpenClaim.holds_of_wide 5 Try.f5 rfl rfl rfl rfl rfl rfl rfl ⟨rfl, rfl, rfl, rfl, rfl⟩ rfl rfl rfl rfl rfl (by kernel_rfl) Try.func5 (by kernel_rfl)
    (of_decide_eq_true (by kernel_rfl)) (by unfold Func.isWrapper; first | (rw [if_pos (by decide +kernel)]; kernel_rfl) | (rw [if_neg (by decide +kernel)]; exact ⟨rfl, rfl⟩))
    (fun os started H enc _ => netSides_lifted os started H enc)
/-- the statement -/
theorem netSides_proved : Rows.NetSidesSaid := netSides_over

end Go.Proofs.Ytidamnmfobblaaa
