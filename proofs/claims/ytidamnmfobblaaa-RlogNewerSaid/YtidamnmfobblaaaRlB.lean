/- Proved: the law RlogNewer answers true for every input, and what it reads stands behind the call as it did. No condition. -/
import Derived.Test.YtidamnmfobblaaaRl6
import Derived.Test.YtidamnmfobblaaaRlI
set_option linter.unusedVariables false
set_option linter.unusedSimpArgs false
set_option maxRecDepth 100000
namespace Go.Proofs.Ytidamnmfobblaaa
open Go
attribute [local irreducible] Exit.then Exit.inBlock Code.wp runS bodyPost postF J runT cutQ cutR Tr Sat blk Sl Old Star Ex Pu
open Go.ChangeShapes Go.WideShapes Go.ChangeAt Go.RowKit

theorem rd_p2 {H : Type} {enc : TypeId × Value → H} {w : World} {base b0 : Nat} {spare : Nat → Bool} {held : Bool} {v : Value} {d : DataW H} {ps : List MemPlace} {r : Reach}
    (hval : Value.okWide Try.prog w r b0 75 v) (h : DataW.Trod enc Try.prog w base spare held 75 v d ps) : ∃ y : P2, v = .agg (Enc.enc y).toArray := by
  have hv := hval
  simp only [Value.okWide, TyC.und (P := Try.prog) (t := 75)] at hv
  obtain ⟨cs, rfl, _⟩ := hv
  obtain ⟨n, hn⟩ := h
  obtain ⟨xs, m, _, _, hl, hx, hf⟩ := DataW.trod_array (TyC.und (P := Try.prog) (t := 75)) hn
  rw [show Try.prog.cellsOf 75 = 2 from by kernel_rfl] at hl
  obtain ⟨a, b, hab⟩ := list2 hl
  have f0 := hf 0 (by decide)
  have f1 := hf 1 (by decide)
  rw [show Try.prog.cellsOf 2 = 1 from by kernel_rfl, hab, List.getElem?_eq_getElem (by omega)] at f0 f1
  obtain ⟨x, e0, _⟩ := rd_int (TyC.und (P := Try.prog) (t := 2)) f0
  obtain ⟨y, e1, _⟩ := rd_int (TyC.und (P := Try.prog) (t := 2)) f1
  injection e0 with e0; injection e1 with e1
  subst e0 e1
  refine ⟨⟨x, y⟩, ?_⟩
  have : cs = [Value.int .i64 x, Value.int .i64 y].toArray := by
    rw [← hab]; simp [Value.cells]
  rw [this]; rfl

set_option maxRecDepth 100000 in
theorem rlogNewer_lifted (os : Os) (started : os.Started) (H : Type) (enc : TypeId × Value → H) :
    ReturnsInHanded {} Try.checked os 11 .any (Rows.rlogNewerSpec.pre6 enc Try.prog Try.f11 Rows.rlogNewerRow.domain false) (Rows.rlogNewerSpec.post enc Try.prog Try.f11 false true false false) := by
  refine returnsInHanded_of_change (C := Try.checked) ownT started (by kernel_rfl) Try.func11
    (ChangeSpec.witness6 (enc := enc) (C := Try.checked) false ⟨#[], #[.agg #[.int .i64 0, .int .i64 0], .agg #[.int .i64 0, .int .i64 0], .agg #[.int .i64 0, .int .i64 0]], []⟩ 8 (by kernel_rfl) (by kernel_rfl) (by kernel_rfl) (by kernel_rfl)) ?_
  intro W base args ds gs before hval hW hcnd _
  refine contract_of laidT (by kernel_rfl) rfl rfl (TyC.und (P := Try.prog) (t := 4)) (fun ds h => ?_) hW ?_
  · obtain ⟨a, b, c, rfl⟩ := list3 (h.trans (by rfl))
    exact ⟨rfl, rfl, rfl⟩
  obtain ⟨p, q, hA, _⟩ := hW
  rw [Try.params11] at hA hval
  obtain ⟨v0, vs0, d0, ds0, p0, q0, hargs, rfl, rfl, h0, r0⟩ := trodAll_cons hA
  obtain ⟨v1, vs1, d1, ds1, p1, q1, rfl, rfl, rfl, h1, r1⟩ := trodAll_cons r0
  obtain ⟨v2, vs2, d2, ds2, p2, q2, rfl, rfl, rfl, h2, r2⟩ := trodAll_cons r1
  obtain ⟨rfl, rfl, rfl⟩ := trodAll_nil r2
  obtain rfl : args = #[v0, v1, v2] := by cases args; simp_all
  obtain ⟨x0, rfl⟩ := rd_p2 (hval 0 _ _ rfl rfl) h0
  obtain ⟨x1, rfl⟩ := rd_p2 (hval 1 _ _ rfl rfl) h1
  obtain ⟨x2, rfl⟩ := rd_p2 (hval 2 _ _ rfl rfl) h2
  exact rlogNewer_spec W x0 x1 x2

theorem rlogNewer_over : Rows.rlogNewerRow.holds Try.pinned (OpenSpec.ofChange Rows.rlogNewerSpec) :=
  OpenClaim.holds_of_wide 11 Try.f11 rfl rfl rfl rfl rfl rfl rfl ⟨rfl, rfl, rfl, rfl, rfl⟩ rfl rfl rfl rfl rfl (by kernel_rfl) Try.func11 (by kernel_rfl)
    (of_decide_eq_true (by kernel_rfl)) (by unfold Func.isWrapper; first | (rw [if_pos (by decide +kernel)]; kernel_rfl) | (rw [if_neg (by decide +kernel)]; exact ⟨rfl, rfl⟩))
    (fun os started H enc _ => rlogNewer_lifted os started H enc)
/-- the statement -/
theorem rlogNewer_proved : Rows.RlogNewerSaid := rlogNewer_over

end Go.Proofs.Ytidamnmfobblaaa
