/- Proved: the law NetDoes answers true for every list of acts, and what it reads stands behind the call as it did. No condition. -/
import Derived.Test.YtidamnmfobblaaaNet8
import Derived.Test.YtidamnmfobblaaaSr
import Derived.Test.YtidamnmfobblaaaRows
set_option linter.unusedVariables false
set_option linter.unusedSimpArgs false
set_option maxRecDepth 100000
namespace Go.Proofs.Ytidamnmfobblaaa
open Go
attribute [local irreducible] Exit.then Exit.inBlock Code.wp runS bodyPost postF J runT cutQ Tr
open Go.ChangeShapes Go.WideShapes Go.ChangeAt Go.RowKit

theorem ownT : ownKnob Try.prog.godebug = none := by kernel_rfl
theorem laidT : laidOutB Try.prog = true := by kernel_rfl

instance : Rd Try.prog 32 Ltr (fun _ => True) := ⟨fun {H enc w base spare held n cs x} h => by
  obtain ⟨m, hl, hf⟩ := struct_at (TyC.und (P := Try.prog) (t := 32)) (k := 3) (by kernel_rfl) h
  obtain ⟨a, b, c, rfl⟩ := list3 hl
  obtain ⟨_, h0⟩ := hf 0 _ rfl 1 (by kernel_rfl)
  obtain ⟨_, h1⟩ := hf 1 _ rfl 1 (by kernel_rfl)
  obtain ⟨_, h2⟩ := hf 2 _ rfl 1 (by kernel_rfl)
  obtain ⟨f, e0, _⟩ := rd_int (TyC.und (P := Try.prog) (t := 3)) h0
  obtain ⟨t, e1, _⟩ := rd_int (TyC.und (P := Try.prog) (t := 3)) h1
  obtain ⟨s, e2, _⟩ := DataW.trod_string (TyC.und (P := Try.prog) (t := 9)) h2
  injection e0 with e0; injection e1 with e1; injection e2 with e2
  subst e0 e1 e2
  exact ⟨⟨f, t, s⟩, rfl, trivial⟩⟩

instance : Rd Try.prog 34 Act ActOk := ⟨fun {H enc w base spare held n cs x} h => by
  obtain ⟨m, hl, hf⟩ := struct_at (TyC.und (P := Try.prog) (t := 34)) (k := 5) (by kernel_rfl) h
  obtain ⟨a, b, c, d, e, rfl⟩ := list5 hl
  obtain ⟨_, h0⟩ := hf 0 _ rfl 1 (by kernel_rfl)
  obtain ⟨_, h1⟩ := hf 1 _ rfl 1 (by kernel_rfl)
  obtain ⟨_, h2⟩ := hf 2 _ rfl 3 (by kernel_rfl)
  obtain ⟨f, e0, _⟩ := rd_int (TyC.und (P := Try.prog) (t := 3)) h0
  obtain ⟨t, e1, w1⟩ := rd_int (TyC.und (P := Try.prog) (t := 3)) h1
  obtain ⟨l, e2, _⟩ := Rd.rd (P := Try.prog) (t := 32) (α := Ltr) h2
  injection e0 with e0; injection e1 with e1; injection e2 with e2 e3; injection e3 with e3 e4; injection e4 with e4 e5
  subst e0 e1 e2 e3 e4
  exact ⟨⟨f, t, l⟩, rfl, bounds_i64 w1⟩⟩

set_option maxRecDepth 100000 in
theorem netDoes_lifted (os : Os) (started : os.Started) (H : Type) (enc : TypeId × Value → H) :
    ReturnsInHanded {} Try.checked os 3 .any (Rows.netDoesSpec.pre6 enc Try.prog Try.f3 Rows.netDoesRow.domain false) (Rows.netDoesSpec.post enc Try.prog Try.f3 false true false false) := by
  refine returnsInHanded_of_change (C := Try.checked) ownT started (by kernel_rfl) Try.func3
    (ChangeSpec.witness6 (enc := enc) (C := Try.checked) false ⟨#[], #[.slice none 0 0], []⟩ 8 (by kernel_rfl) (by kernel_rfl) (by kernel_rfl) (by kernel_rfl)) ?_
  intro W base args ds gs before hval hW hcnd _
  refine contract_of laidT (by kernel_rfl) rfl rfl (TyC.und (P := Try.prog) (t := 4)) (fun ds h => ?_) hW ?_
  · obtain ⟨a, rfl⟩ := list1 (h.trans (by rfl : _ = 1))
    exact ⟨rfl, rfl, rfl⟩
  · obtain ⟨p, q, hA, _⟩ := hW
    rw [Try.params3] at hA hval
    obtain ⟨v0, vs0, d0, ds0, p0, q0, hargs, rfl, rfl, h0, r0⟩ := trodAll_cons hA
    obtain ⟨rfl, rfl, rfl⟩ := trodAll_nil r0
    obtain rfl : args = #[v0] := by cases args; simp_all
    obtain ⟨a, cap, ls, rfl, hv, hok, hlm, _⟩ := rd_slice (α := Act) (TyC.und (P := Try.prog) (t := 22)) (by kernel_rfl) (by decide) (hval 0 _ _ rfl rfl) h0
    exact netDoes_spec W a cap ls hv hok (Nat.le_trans hlm (by decide))

theorem netDoes_over : Rows.netDoesRow.holds Try.pinned (OpenSpec.ofChange Rows.netDoesSpec) :=
  OpenClaim.holds_of_wide 3 Try.f3 rfl rfl rfl rfl rfl rfl rfl ⟨rfl, rfl, rfl, rfl, rfl⟩ rfl rfl rfl rfl rfl (by kernel_rfl) Try.func3 (by kernel_rfl)
    (of_decide_eq_true (by kernel_rfl)) (by unfold Func.isWrapper; first | (rw [if_pos (by decide +kernel)]; kernel_rfl) | (rw [if_neg (by decide +kernel)]; exact ⟨rfl, rfl⟩))
    (fun os started H enc _ => netDoes_lifted os started H enc)

/-- the statement -/
theorem netDoes_proved : Rows.NetDoesSaid := netDoes_over

end Go.Proofs.Ytidamnmfobblaaa
