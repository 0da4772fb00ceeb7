/- Proved: the law NetFull answers true for every input, and what it reads stands behind the call as it did. No condition. -/
import Derived.Test.YtidamnmfobblaaaNet9
import Derived.Test.YtidamnmfobblaaaNetI
set_option linter.unusedVariables false
set_option linter.unusedSimpArgs false
set_option maxRecDepth 100000
namespace Go.Proofs.Ytidamnmfobblaaa
open Go
attribute [local irreducible] Exit.then Exit.inBlock Code.wp runS bodyPost postF J runT cutQ Tr
open Go.ChangeShapes Go.WideShapes Go.ChangeAt Go.RowKit

set_option maxRecDepth 100000 in
theorem netFull_lifted (os : Os) (started : os.Started) (H : Type) (enc : TypeId × Value → H) :
    ReturnsInHanded {} Try.checked os 7 .any (Rows.netFullSpec.pre6 enc Try.prog Try.f7 Rows.netFullRow.domain false) (Rows.netFullSpec.post enc Try.prog Try.f7 false true false false) := by
  refine returnsInHanded_of_change (C := Try.checked) ownT started (by kernel_rfl) Try.func7
    (ChangeSpec.witness6 (enc := enc) (C := Try.checked) false ⟨#[], #[.slice none 0 0, .agg #[.int .i64 0, .int .i64 0, .string .empty]], []⟩ 8 (by kernel_rfl) (by kernel_rfl) (by kernel_rfl) (by kernel_rfl)) ?_
  intro W base args ds gs before hval hW hcnd _
  refine contract_of laidT (by kernel_rfl) rfl rfl (TyC.und (P := Try.prog) (t := 4)) (fun ds h => ?_) hW ?_
  · obtain ⟨a, b, rfl⟩ := list2 (h.trans (by rfl))
    exact ⟨rfl, rfl, rfl⟩
  obtain ⟨p, q, hA, _⟩ := hW
  rw [Try.params7] at hA hval
  obtain ⟨v0, vs0, d0, ds0, p0, q0, hargs, rfl, rfl, h0, r0⟩ := trodAll_cons hA
  obtain ⟨v1, vs1, d1, ds1, p1, q1, rfl, rfl, rfl, h1, r1⟩ := trodAll_cons r0
  obtain ⟨rfl, rfl, rfl⟩ := trodAll_nil r1
  obtain rfl : args = #[v0, v1] := by cases args; simp_all
  obtain ⟨a, cap, ls, rfl, hv, hok, hlm, _⟩ := rd_slice (α := Act) (TyC.und (P := Try.prog) (t := 22)) (by kernel_rfl) (by decide) (hval 0 _ _ rfl rfl) h0
  obtain ⟨x, rfl, _⟩ := rd_agg (α := Ltr) (TyC.und (P := Try.prog) (t := 32)) (hval 1 _ _ rfl rfl) h1
  exact netFull_spec W a cap ls x hv hok (Nat.le_trans hlm (by decide))

theorem netFull_over : Rows.netFullRow.holds Try.pinned (OpenSpec.ofChange Rows.netFullSpec) :=
  OpenClaim.holds_of_wide 7 Try.f7 rfl rfl rfl rfl rfl rfl rfl ⟨rfl, rfl, rfl, rfl, rfl⟩ rfl rfl rfl rfl rfl (by kernel_rfl) Try.func7 (by kernel_rfl)
    (of_decide_eq_true (by kernel_rfl)) (by unfold Func.isWrapper; first | (rw [if_pos (by decide +kernel)]; kernel_rfl) | (rw [if_neg (by decide +kernel)]; exact ⟨rfl, rfl⟩))
    (fun os started H enc _ => netFull_lifted os started H enc)
/-- the statement -/
theorem netFull_proved : Rows.NetFullSaid := netFull_over

end Go.Proofs.Ytidamnmfobblaaa
