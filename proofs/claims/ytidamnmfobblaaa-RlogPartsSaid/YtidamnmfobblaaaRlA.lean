/- Proved: the law RlogParts answers true for every input, and what it reads stands behind the call as it did. No condition. -/
import Derived.Test.YtidamnmfobblaaaRl5
import Derived.Test.YtidamnmfobblaaaRlI
set_option linter.unusedVariables false
set_option linter.unusedSimpArgs false
set_option maxRecDepth 100000
namespace Go.Proofs.Ytidamnmfobblaaa
open Go
attribute [local irreducible] Exit.then Exit.inBlock Code.wp runS bodyPost postF J runT cutQ cutR Tr Sat blk Sl Old Star Ex Pu
open Go.ChangeShapes Go.WideShapes Go.ChangeAt Go.RowKit

set_option maxRecDepth 100000 in
theorem rlogParts_lifted (os : Os) (started : os.Started) (H : Type) (enc : TypeId × Value → H) :
    ReturnsInHanded {} Try.checked os 12 .any (Rows.rlogPartsSpec.pre6 enc Try.prog Try.f12 Rows.rlogPartsRow.domain false) (Rows.rlogPartsSpec.post enc Try.prog Try.f12 false true false false) := by
  refine returnsInHanded_of_change (C := Try.checked) ownT started (by kernel_rfl) Try.func12
    (ChangeSpec.witness6 (enc := enc) (C := Try.checked) false ⟨#[], #[.int .i64 0, .int .i64 0, .slice none 0 0, .int .i64 0, .int .u8 0, .int .u8 0], []⟩ 8 (by kernel_rfl) (by kernel_rfl) (by kernel_rfl) (by kernel_rfl)) ?_
  intro W base args ds gs before hval hW hcnd _
  refine contract_of laidT (by kernel_rfl) rfl rfl (TyC.und (P := Try.prog) (t := 4)) (fun ds h => ?_) hW ?_
  · obtain ⟨a, b, c, d, e, f, rfl⟩ := list6 (h.trans (by rfl))
    exact ⟨rfl, rfl, rfl⟩
  obtain ⟨p, q, hA, _⟩ := hW
  rw [Try.params12] at hA hval
  obtain ⟨v0, vs0, d0, ds0, p0, q0, hargs, rfl, rfl, h0, r0⟩ := trodAll_cons hA
  obtain ⟨v1, vs1, d1, ds1, p1, q1, rfl, rfl, rfl, h1, r1⟩ := trodAll_cons r0
  obtain ⟨v2, vs2, d2, ds2, p2, q2, rfl, rfl, rfl, h2, r2⟩ := trodAll_cons r1
  obtain ⟨v3, vs3, d3, ds3, p3, q3, rfl, rfl, rfl, h3, r3⟩ := trodAll_cons r2
  obtain ⟨v4, vs4, d4, ds4, p4, q4, rfl, rfl, rfl, h4, r4⟩ := trodAll_cons r3
  obtain ⟨v5, vs5, d5, ds5, p5, q5, rfl, rfl, rfl, h5, r5⟩ := trodAll_cons r4
  obtain ⟨rfl, rfl, rfl⟩ := trodAll_nil r5
  obtain rfl : args = #[v0, v1, v2, v3, v4, v5] := by cases args; simp_all
  obtain ⟨ix, rfl, _, _, w0⟩ := open_int (TyC.und (P := Try.prog) (t := 2)) (hval 0 _ _ rfl rfl) h0
  obtain ⟨t, rfl, _, _, w1⟩ := open_int (TyC.und (P := Try.prog) (t := 2)) (hval 1 _ _ rfl rfl) h1
  obtain ⟨a, cap, ls, rfl, hv, hok, hlm, _⟩ := rd_slice (α := Ent) (TyC.und (P := Try.prog) (t := 49)) (by kernel_rfl) (by decide) (hval 2 _ _ rfl rfl) h2
  obtain ⟨fr, rfl, _, _, w3⟩ := open_int (TyC.und (P := Try.prog) (t := 2)) (hval 3 _ _ rfl rfl) h3
  obtain ⟨n, rfl, _, _, w4⟩ := open_int (TyC.und (P := Try.prog) (t := 5)) (hval 4 _ _ rfl rfl) h4
  obtain ⟨m, rfl, _, _, w5⟩ := open_int (TyC.und (P := Try.prog) (t := 5)) (hval 5 _ _ rfl rfl) h5
  have b4 := bounds_u8 w4
  have b5 := bounds_u8 w5
  obtain ⟨n', rfl⟩ : ∃ n' : Nat, n = n' := ⟨n.toNat, by omega⟩
  obtain ⟨m', rfl⟩ : ∃ m' : Nat, m = m' := ⟨m.toNat, by omega⟩
  exact rlogParts_spec W ix t a cap ls fr n' m' hv (Nat.le_trans hlm (by decide)) (bounds_i64 w0) (bounds_i64 w3) (by omega) (by omega)

theorem rlogParts_over : Rows.rlogPartsRow.holds Try.pinned (OpenSpec.ofChange Rows.rlogPartsSpec) :=
  OpenClaim.holds_of_wide 12 Try.f12 rfl rfl rfl rfl rfl rfl rfl ⟨rfl, rfl, rfl, rfl, rfl⟩ rfl rfl rfl rfl rfl (by kernel_rfl) Try.func12 (by kernel_rfl)
    (of_decide_eq_true (by kernel_rfl)) (by unfold Func.isWrapper; first | (rw [if_pos (by decide +kernel)]; kernel_rfl) | (rw [if_neg (by decide +kernel)]; exact ⟨rfl, rfl⟩))
    (fun os started H enc _ => rlogParts_lifted os started H enc)
/-- the statement -/
theorem rlogParts_proved : Rows.RlogPartsSaid := rlogParts_over

end Go.Proofs.Ytidamnmfobblaaa
