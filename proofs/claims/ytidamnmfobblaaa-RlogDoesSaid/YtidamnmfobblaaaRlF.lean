/- Proved: the law RlogDoes answers true for every input, and what it reads stands behind the call as it did. No condition. -/
import Derived.Test.YtidamnmfobblaaaRf6
import Derived.Test.YtidamnmfobblaaaRlJ
set_option linter.unusedVariables false
set_option linter.unusedSimpArgs false
set_option maxRecDepth 100000
namespace Go.Proofs.Ytidamnmfobblaaa
open Go
attribute [local irreducible] Exit.then Exit.inBlock Code.wp runS bodyPost postF J runT cutQ cutR Tr Sat blk Sl Old Star Ex Pu
open Go.ChangeShapes Go.WideShapes Go.ChangeAt Go.RowKit

set_option maxRecDepth 100000 in
theorem rlogDoes_lifted (os : Os) (started : os.Started) (H : Type) (enc : TypeId × Value → H) :
    ReturnsInHanded {} Try.checked os 13 .any (Rows.rlogDoesSpec.pre6 enc Try.prog Try.f13 Rows.rlogDoesRow.domain false) (Rows.rlogDoesSpec.post enc Try.prog Try.f13 false true false false) := by
  refine returnsInHanded_of_change (C := Try.checked) ownT started (by kernel_rfl) Try.func13
    (ChangeSpec.witness6 (enc := enc) (C := Try.checked) false ⟨#[], #[.int .i64 0, .int .i64 0, .slice none 0 0, .slice none 0 0], []⟩ 8 (by kernel_rfl) (by kernel_rfl) (by kernel_rfl) (by kernel_rfl)) ?_
  intro W base args ds gs before hval hW hcnd _
  refine contract_of laidT (by kernel_rfl) rfl rfl (TyC.und (P := Try.prog) (t := 4)) (fun ds h => ?_) hW ?_
  · obtain ⟨a, b, c, d, rfl⟩ := list4 (h.trans (by rfl))
    exact ⟨rfl, rfl, rfl⟩
  obtain ⟨p, q, hA, _⟩ := hW
  rw [Try.params13] at hA hval
  obtain ⟨v0, vs0, d0, ds0, p0, q0, hargs, rfl, rfl, h0, r0⟩ := trodAll_cons hA
  obtain ⟨v1, vs1, d1, ds1, p1, q1, rfl, rfl, rfl, h1, r1⟩ := trodAll_cons r0
  obtain ⟨v2, vs2, d2, ds2, p2, q2, rfl, rfl, rfl, h2, r2⟩ := trodAll_cons r1
  obtain ⟨v3, vs3, d3, ds3, p3, q3, rfl, rfl, rfl, h3, r3⟩ := trodAll_cons r2
  obtain ⟨rfl, rfl, rfl⟩ := trodAll_nil r3
  obtain rfl : args = #[v0, v1, v2, v3] := by cases args; simp_all
  obtain ⟨ix, rfl, _, _, w0⟩ := open_int (TyC.und (P := Try.prog) (t := 2)) (hval 0 _ _ rfl rfl) h0
  obtain ⟨t, rfl, _, _, w1⟩ := open_int (TyC.und (P := Try.prog) (t := 2)) (hval 1 _ _ rfl rfl) h1
  obtain ⟨a, cap, ls, rfl, hv, hok, hlm, _⟩ := rd_slice (α := Ent) (TyC.und (P := Try.prog) (t := 49)) (by kernel_rfl) (by decide) (hval 2 _ _ rfl rfl) h2
  obtain ⟨a2, cap2, acts, rfl, hv2, hok2, hlm2, _⟩ := rd_slice (α := RAct) (TyC.und (P := Try.prog) (t := 63)) (by kernel_rfl) (by decide) (hval 3 _ _ rfl rfl) h3
  exact rlogDoes_spec W ix t a cap ls a2 cap2 acts hv (Nat.le_trans hlm (by decide)) (bounds_i64 w0) hv2 (Nat.le_trans hlm2 (by decide)) hok2

theorem rlogDoes_over : Rows.rlogDoesRow.holds Try.pinned (OpenSpec.ofChange Rows.rlogDoesSpec) :=
  OpenClaim.holds_of_wide 13 Try.f13 rfl rfl rfl rfl rfl rfl rfl ⟨rfl, rfl, rfl, rfl, rfl⟩ rfl rfl rfl rfl rfl (by kernel_rfl) Try.func13 (by kernel_rfl)
    (of_decide_eq_true (by kernel_rfl)) (by unfold Func.isWrapper; first | (rw [if_pos (by decide +kernel)]; kernel_rfl) | (rw [if_neg (by decide +kernel)]; exact ⟨rfl, rfl⟩))
    (fun os started H enc _ => rlogDoes_lifted os started H enc)
/-- the statement -/
theorem rlogDoes_proved : Rows.RlogDoesSaid := rlogDoes_over

end Go.Proofs.Ytidamnmfobblaaa
