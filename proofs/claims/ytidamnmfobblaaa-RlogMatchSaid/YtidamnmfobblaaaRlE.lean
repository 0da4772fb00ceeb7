/- Proved: the law RlogMatch answers true for every input, and what it reads stands behind the call as it did. No condition. -/
import Derived.Test.YtidamnmfobblaaaRlM
import Derived.Test.YtidamnmfobblaaaRlI
set_option linter.unusedVariables false
set_option linter.unusedSimpArgs false
set_option maxRecDepth 100000
namespace Go.Proofs.Ytidamnmfobblaaa
open Go
attribute [local irreducible] Exit.then Exit.inBlock Code.wp runS bodyPost postF J runT cutQ cutR Tr Sat blk Sl Old Star Ex Pu
open Go.ChangeShapes Go.WideShapes Go.ChangeAt Go.RowKit

instance : Rd Try.prog 5 U8 U8Ok := ⟨fun {H enc w base spare held n cs x} h => by
  obtain ⟨t, rfl, hw⟩ := rd_int (TyC.und (P := Try.prog) (t := 5)) h
  exact ⟨⟨t⟩, rfl, bounds_u8 hw⟩⟩

instance : Rd Try.prog 59 PartS PartOk := ⟨fun {H enc w base spare held n cs x} h => by
  obtain ⟨m, hl, hf⟩ := struct_at (TyC.und (P := Try.prog) (t := 59)) (k := 3) (by kernel_rfl) h
  obtain ⟨a, b, c, rfl⟩ := list3 hl
  obtain ⟨_, h0⟩ := hf 0 _ rfl 1 (by kernel_rfl)
  obtain ⟨_, h1⟩ := hf 1 _ rfl 1 (by kernel_rfl)
  obtain ⟨_, h2⟩ := hf 2 _ rfl 1 (by kernel_rfl)
  obtain ⟨i, e0, w0⟩ := rd_int (TyC.und (P := Try.prog) (t := 5)) h0
  obtain ⟨j, e1, w1⟩ := rd_int (TyC.und (P := Try.prog) (t := 5)) h1
  obtain ⟨k, e2, w2⟩ := rd_int (TyC.und (P := Try.prog) (t := 5)) h2
  injection e0 with e0; injection e1 with e1; injection e2 with e2
  subst e0 e1 e2
  exact ⟨⟨i, j, k⟩, rfl, bounds_u8 w0, bounds_u8 w1, bounds_u8 w2⟩⟩

set_option maxRecDepth 100000 in
theorem rlogMatch_lifted (os : Os) (started : os.Started) (H : Type) (enc : TypeId × Value → H) :
    ReturnsInHanded {} Try.checked os 8 .any (Rows.rlogMatchSpec.pre6 enc Try.prog Try.f8 Rows.rlogMatchRow.domain false) (Rows.rlogMatchSpec.post enc Try.prog Try.f8 false true false false) := by
  refine returnsInHanded_of_change (C := Try.checked) ownT started (by kernel_rfl) Try.func8
    (ChangeSpec.witness6 (enc := enc) (C := Try.checked) false ⟨#[], #[.slice none 0 0, .slice none 0 0, .slice none 0 0, .slice none 0 0], []⟩ 8 (by kernel_rfl) (by kernel_rfl) (by kernel_rfl) (by kernel_rfl)) ?_
  intro W base args ds gs before hval hW hcnd _
  refine contract_of laidT (by kernel_rfl) rfl rfl (TyC.und (P := Try.prog) (t := 4)) (fun ds h => ?_) hW ?_
  · obtain ⟨a, b, c, d, rfl⟩ := list4 (h.trans (by rfl))
    exact ⟨rfl, rfl, rfl⟩
  obtain ⟨p, q, hA, _⟩ := hW
  rw [Try.params8] at hA hval
  obtain ⟨v0, vs0, d0, ds0, p0, q0, hargs, rfl, rfl, h0, r0⟩ := trodAll_cons hA
  obtain ⟨v1, vs1, d1, ds1, p1, q1, rfl, rfl, rfl, h1, r1⟩ := trodAll_cons r0
  obtain ⟨v2, vs2, d2, ds2, p2, q2, rfl, rfl, rfl, h2, r2⟩ := trodAll_cons r1
  obtain ⟨v3, vs3, d3, ds3, p3, q3, rfl, rfl, rfl, h3, r3⟩ := trodAll_cons r2
  obtain ⟨rfl, rfl, rfl⟩ := trodAll_nil r3
  obtain rfl : args = #[v0, v1, v2, v3] := by cases args; simp_all
  obtain ⟨a0, c0, l0, rfl, hv0, ho0, hm0, _⟩ := rd_slice (α := U8) (TyC.und (P := Try.prog) (t := 47)) (by kernel_rfl) (by decide) (hval 0 _ _ rfl rfl) h0
  obtain ⟨a1, c1, l1, rfl, hv1, ho1, hm1, _⟩ := rd_slice (α := U8) (TyC.und (P := Try.prog) (t := 47)) (by kernel_rfl) (by decide) (hval 1 _ _ rfl rfl) h1
  obtain ⟨a2, c2, l2, rfl, hv2, ho2, hm2, _⟩ := rd_slice (α := PartS) (TyC.und (P := Try.prog) (t := 48)) (by kernel_rfl) (by decide) (hval 2 _ _ rfl rfl) h2
  obtain ⟨a3, c3, l3, rfl, hv3, ho3, hm3, _⟩ := rd_slice (α := PartS) (TyC.und (P := Try.prog) (t := 48)) (by kernel_rfl) (by decide) (hval 3 _ _ rfl rfl) h3
  exact rlogMatch_spec W a0 a1 a2 a3 c0 c1 c2 c3 l0 l1 l2 l3 hv0 hv1 hv2 hv3 (Nat.le_trans hm0 (by decide)) (Nat.le_trans hm1 (by decide)) (Nat.le_trans hm2 (by decide)) (Nat.le_trans hm3 (by decide)) ho0 ho1 ho2 ho3

theorem rlogMatch_over : Rows.rlogMatchRow.holds Try.pinned (OpenSpec.ofChange Rows.rlogMatchSpec) :=
  OpenClaim.holds_of_wide 8 Try.f8 rfl rfl rfl rfl rfl rfl rfl ⟨rfl, rfl, rfl, rfl, rfl⟩ rfl rfl rfl rfl rfl (by kernel_rfl) Try.func8 (by kernel_rfl)
    (of_decide_eq_true (by kernel_rfl)) (by unfold Func.isWrapper; first | (rw [if_pos (by decide +kernel)]; kernel_rfl) | (rw [if_neg (by decide +kernel)]; exact ⟨rfl, rfl⟩))
    (fun os started H enc _ => rlogMatch_lifted os started H enc)
/-- the statement -/
theorem rlogMatch_proved : Rows.RlogMatchSaid := rlogMatch_over

end Go.Proofs.Ytidamnmfobblaaa
