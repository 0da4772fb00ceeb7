/- Proved: the law ConfOf answers true for every input, and what it reads stands behind the call as it did. No condition. -/
import Derived.Test.YtnmfpgfgjjmfhaaRcX
import Derived.Test.YtnmfpgfgjjmfhaaClI
set_option linter.unusedVariables false
set_option linter.unusedSimpArgs false
set_option maxRecDepth 100000
namespace Go.Proofs.Ytnmfpgfgjjmfhaa
open Go
attribute [local irreducible] Exit.then Exit.inBlock Code.wp runS bodyPost postF J runT cutQ cutR Tr Sat blk Sl Old Star Ex Pu
open Go.ChangeShapes Go.WideShapes Go.ChangeAt Go.RowKit

instance : Rd Try.prog 48 En (fun _ e => e.d.size ≤ 9223372036854775807) := ⟨fun {H enc w base spare held n cs x} h => by
  obtain ⟨m, hl, hf⟩ := struct_at (TyC.und (P := Try.prog) (t := 48)) (k := 2) (by kernel_rfl) h
  obtain ⟨a, b, rfl⟩ := list2 hl
  obtain ⟨_, h0⟩ := hf 0 _ rfl 1 (by kernel_rfl)
  obtain ⟨_, h1⟩ := hf 1 _ rfl 1 (by kernel_rfl)
  obtain ⟨t, e0, _⟩ := rd_int (TyC.und (P := Try.prog) (t := 2)) h0
  obtain ⟨s, e1, _, hs⟩ := DataW.trod_string (TyC.und (P := Try.prog) (t := 9)) h1
  injection e0 with e0; injection e1 with e1
  subst e0 e1
  exact ⟨⟨t, s⟩, rfl, Nat.le_trans hs (by decide)⟩⟩

set_option maxRecDepth 100000 in
theorem confOf_lifted (os : Os) (started : os.Started) (H : Type) (enc : TypeId × Value → H) :
    ReturnsInHanded {} Try.checked os 4 .any (Rows.confOfSpec.pre6 enc Try.prog Try.f4 Rows.confOfRow.domain false) (Rows.confOfSpec.post enc Try.prog Try.f4 false true false false) := by
  refine returnsInHanded_of_change (C := Try.checked) ownT started (by kernel_rfl) Try.func4
    (ChangeSpec.witness6 (enc := enc) (C := Try.checked) false ⟨#[], #[.int .i64 0, .slice none 0 0], []⟩ 8 (by kernel_rfl) (by kernel_rfl) (by kernel_rfl) (by kernel_rfl)) ?_
  intro W base args ds gs before hval hW hcnd _
  refine contract_of laidT (by kernel_rfl) rfl rfl (TyC.und (P := Try.prog) (t := 4)) (fun ds h => ?_) hW ?_
  · obtain ⟨a, b, rfl⟩ := list2 (h.trans (by rfl))
    exact ⟨rfl, rfl, rfl⟩
  obtain ⟨p, q, hA, _⟩ := hW
  rw [Try.params4] at hA hval
  obtain ⟨v0, vs0, d0, ds0, p0, q0, hargs, rfl, rfl, h0, r0⟩ := trodAll_cons hA
  obtain ⟨v1, vs1, d1, ds1, p1, q1, rfl, rfl, rfl, h1, r1⟩ := trodAll_cons r0
  obtain ⟨rfl, rfl, rfl⟩ := trodAll_nil r1
  obtain rfl : args = #[v0, v1] := by cases args; simp_all
  obtain ⟨m, rfl, _, _, w0⟩ := open_int (TyC.und (P := Try.prog) (t := 2)) (hval 0 _ _ rfl rfl) h0
  obtain ⟨a1, c1, ls, rfl, hv1, hok1, hlm1, _⟩ := rd_slice (α := En) (TyC.und (P := Try.prog) (t := 31)) (by kernel_rfl) (by decide) (hval 1 _ _ rfl rfl) h1
  exact confOf_spec W m a1 c1 ls hv1 hok1

theorem confOf_over : Rows.confOfRow.holds Try.pinned (OpenSpec.ofChange Rows.confOfSpec) :=
  OpenClaim.holds_of_wide 4 Try.f4 rfl rfl rfl rfl rfl rfl rfl ⟨rfl, rfl, rfl, rfl, rfl⟩ rfl rfl rfl rfl rfl (by kernel_rfl) Try.func4 (by kernel_rfl)
    (of_decide_eq_true (by kernel_rfl)) (by unfold Func.isWrapper; first | (rw [if_pos (by decide +kernel)]; kernel_rfl) | (rw [if_neg (by decide +kernel)]; exact ⟨rfl, rfl⟩))
    (fun os started H enc _ => confOf_lifted os started H enc)
/-- the statement -/
theorem confOf_proved : Rows.ConfOfSaid := confOf_over

end Go.Proofs.Ytnmfpgfgjjmfhaa
