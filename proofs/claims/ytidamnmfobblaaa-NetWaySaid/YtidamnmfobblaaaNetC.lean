/- Proved: the law NetWay answers true for every input, and what it reads stands behind the call as it did. No condition. -/
import Derived.Test.YtidamnmfobblaaaNet10
import Derived.Test.YtidamnmfobblaaaNetI
set_option linter.unusedVariables false
set_option linter.unusedSimpArgs false
set_option maxRecDepth 100000
namespace Go.Proofs.Ytidamnmfobblaaa
open Go
attribute [local irreducible] Exit.then Exit.inBlock Code.wp runS bodyPost postF J runT cutQ Tr Sat blk Sl Old Star Ex Pu
open Go.ChangeShapes Go.WideShapes Go.ChangeAt Go.RowKit

set_option maxRecDepth 100000 in
theorem netWay_lifted (os : Os) (started : os.Started) (H : Type) (enc : TypeId × Value → H) :
    ReturnsInHanded {} Try.checked os 6 .any (Rows.netWaySpec.pre6 enc Try.prog Try.f6 Rows.netWayRow.domain false) (Rows.netWaySpec.post enc Try.prog Try.f6 false true false false) := by
  refine returnsInHanded_of_change (C := Try.checked) ownT started (by kernel_rfl) Try.func6
    (ChangeSpec.witness6 (enc := enc) (C := Try.checked) false ⟨#[], #[.slice none 0 0], []⟩ 8 (by kernel_rfl) (by kernel_rfl) (by kernel_rfl) (by kernel_rfl)) ?_
  intro W base args ds gs before hval hW hcnd _
  refine contract_of laidT (by kernel_rfl) rfl rfl (TyC.und (P := Try.prog) (t := 4)) (fun ds h => ?_) hW ?_
  · obtain ⟨a, rfl⟩ := list1 (h.trans (by rfl))
    exact ⟨rfl, rfl, rfl⟩
  obtain ⟨p, q, hA, _⟩ := hW
  rw [Try.params6] at hA hval
  obtain ⟨v0, vs0, d0, ds0, p0, q0, hargs, rfl, rfl, h0, r0⟩ := trodAll_cons hA
  obtain ⟨rfl, rfl, rfl⟩ := trodAll_nil r0
  obtain rfl : args = #[v0] := by cases args; simp_all
  obtain ⟨a, cap, ls, rfl, hv, hok, hlm, _⟩ := rd_slice (α := Act) (TyC.und (P := Try.prog) (t := 22)) (by kernel_rfl) (by decide) (hval 0 _ _ rfl rfl) h0
  exact netWay_spec W a cap ls hv hok (Nat.le_trans hlm (by decide))

theorem netWay_over : Rows.netWayRow.holds Try.pinned (OpenSpec.ofChange Rows.netWaySpec) :=
  OpenClaim.holds_of_wide 6 Try.f6 rfl rfl rfl rfl rfl rfl rfl ⟨rfl, rfl, rfl, rfl, rfl⟩ rfl rfl rfl rfl rfl (by kernel_rfl) Try.func6 (by kernel_rfl)
    (of_decide_eq_true (by kernel_rfl)) (by unfold Func.isWrapper; first | (rw [if_pos (by decide +kernel)]; kernel_rfl) | (rw [if_neg (by decide +kernel)]; exact ⟨rfl, rfl⟩))
    (fun os started H enc _ => netWay_lifted os started H enc)
/-- the statement -/
theorem netWay_proved : Rows.NetWaySaid := netWay_over

end Go.Proofs.Ytidamnmfobblaaa
