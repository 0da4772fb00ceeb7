/- Acts on disks, read as arguments. -/
import Derived.Test.YtjneocpbpnbopaaDk9
import Derived.Test.YtjneocpbpnbopaaSr
import Derived.Test.YtjneocpbpnbopaaRows
set_option linter.unusedVariables false
set_option linter.unusedSimpArgs false
set_option maxRecDepth 100000
namespace Go.Proofs.Ytjneocpbpnbopaa
open Go
attribute [local irreducible] Exit.then Exit.inBlock Code.wp runS bodyPost postF J runT cutQ cutR Tr Sat blk Sl Old Star Ex Pu
open Go.ChangeShapes Go.WideShapes Go.ChangeAt Go.RowKit

theorem ownT : ownKnob Try.prog.godebug = none := by kernel_rfl
theorem laidT : laidOutB Try.prog = true := by kernel_rfl

def LeftOk (_ : World) (x : LeftS) : Prop := -9223372036854775808 ≤ x.keep ∧ x.keep ≤ 9223372036854775807
def DActOk (w : World) (x : DAct) : Prop :=
  (-9223372036854775808 ≤ x.k ∧ x.k ≤ 9223372036854775807) ∧ (-9223372036854775808 ≤ x.n ∧ x.n ≤ 9223372036854775807) ∧ (∃ b : List UInt8, x.bn = b.length ∧ b.length ≤ x.bc ∧ b.length ≤ maxLen ∧ Vw w x.bA b) ∧ ∃ l : List LeftS, x.ln = l.length ∧ l.length ≤ maxLen ∧ Vw w x.lA l ∧ (∀ y ∈ l, LeftOk w y) ∧ x.a.size ≤ 9223372036854775807 ∧ x.t.size ≤ 9223372036854775807

instance : Rd Try.prog 5 UInt8 (fun _ _ => True) := ⟨fun {H enc w base spare held n cs x} h => by
  obtain ⟨t, rfl, hw⟩ := rd_int (TyC.und (P := Try.prog) (t := 5)) h
  have hb := bounds_u8 hw
  refine ⟨UInt8.ofNat t.toNat, ?_, trivial⟩
  show [Value.int .u8 t] = [Value.int .u8 ((UInt8.ofNat t.toNat).toNat : Nat)]
  rw [UInt8.toNat_ofNat_of_lt' (by show t.toNat < 256; omega), Int.toNat_of_nonneg hb.1]⟩

instance : Rd Try.prog 62 LeftS LeftOk := ⟨fun {H enc w base spare held n cs x} h => by
  obtain ⟨m, hl, hf⟩ := struct_at (TyC.und (P := Try.prog) (t := 62)) (k := 2) (by kernel_rfl) h
  obtain ⟨a, b, rfl⟩ := list2 hl
  obtain ⟨_, h0⟩ := hf 0 _ rfl 1 (by kernel_rfl)
  obtain ⟨_, h1⟩ := hf 1 _ rfl 1 (by kernel_rfl)
  obtain ⟨k, e0, w0⟩ := rd_int (TyC.und (P := Try.prog) (t := 3)) h0
  obtain ⟨z, e1, _⟩ := DataW.trod_bool (TyC.und (P := Try.prog) (t := 4)) h1
  injection e0 with e0; injection e1 with e1
  subst e0 e1
  exact ⟨⟨k, z⟩, rfl, bounds_i64 w0⟩⟩

theorem list6 {α : Type} {l : List α} (h : l.length = 6) : ∃ a b c d e f, l = [a, b, c, d, e, f] := by
  match l, h with
  | [a, b, c, d, e, f], _ => exact ⟨a, b, c, d, e, f, rfl⟩

instance : Rd Try.prog 31 DAct DActOk := ⟨fun {H enc w base spare held n cs x} h => by
  obtain ⟨m, hl, hf⟩ := struct_at (TyC.und (P := Try.prog) (t := 31)) (k := 6) (by kernel_rfl) h
  obtain ⟨a, b, c, d, e, f, rfl⟩ := list6 hl
  obtain ⟨_, h0⟩ := hf 0 _ rfl 1 (by kernel_rfl)
  obtain ⟨_, h1⟩ := hf 1 _ rfl 1 (by kernel_rfl)
  obtain ⟨_, h2⟩ := hf 2 _ rfl 1 (by kernel_rfl)
  obtain ⟨_, h3⟩ := hf 3 _ rfl 1 (by kernel_rfl)
  obtain ⟨_, h4⟩ := hf 4 _ rfl 1 (by kernel_rfl)
  obtain ⟨_, h5⟩ := hf 5 _ rfl 1 (by kernel_rfl)
  obtain ⟨k, e0, w0⟩ := rd_int (TyC.und (P := Try.prog) (t := 3)) h0
  obtain ⟨s, e1, _, z1⟩ := DataW.trod_string (TyC.und (P := Try.prog) (t := 9)) h1
  obtain ⟨t, e2, _, z2⟩ := DataW.trod_string (TyC.und (P := Try.prog) (t := 9)) h2
  obtain ⟨ba, bc, bl, e3, hv3, _, hm3, hc3, _⟩ := rd_slice_in (α := UInt8) (TyC.und (P := Try.prog) (t := 28)) (by kernel_rfl) (by decide) h3
  obtain ⟨N, e4, w4⟩ := rd_int (TyC.und (P := Try.prog) (t := 3)) h4
  obtain ⟨la, lc, ll, e5, hv5, ho5, hm5, _, _⟩ := rd_slice_in (α := LeftS) (TyC.und (P := Try.prog) (t := 29)) (by kernel_rfl) (by decide) h5
  injection e0 with e0; injection e1 with e1; injection e2 with e2; injection e3 with e3; injection e4 with e4; injection e5 with e5
  subst e0 e1 e2 e3 e4 e5
  exact ⟨⟨k, s, t, ba, bl.length, bc, N, la, ll.length, lc⟩, rfl, bounds_i64 w0, bounds_i64 w4, ⟨bl, rfl, hc3, hm3, hv3⟩, ll, rfl, hm5, hv5, ho5, Nat.le_trans z1 (by decide), Nat.le_trans z2 (by decide)⟩⟩

end Go.Proofs.Ytjneocpbpnbopaa
