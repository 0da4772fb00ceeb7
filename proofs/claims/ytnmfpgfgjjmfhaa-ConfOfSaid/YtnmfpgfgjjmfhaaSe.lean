/- Bytes and ends of strings; products. -/
import Derived.Test.YtnmfpgfgjjmfhaaSd
import Derived.Lib.RuneCountTail
set_option linter.unusedVariables false
set_option linter.unusedSimpArgs false
namespace Go.Proofs.Ytnmfpgfgjjmfhaa
open Go
section
variable {P : Program} {EE : EX} {n : Nat} {fm : Fm} {L : List HP} {ops : Array Oper} {K : Act → World → Prop} {rest : List Oper} {ty : TypeId} {pos : String} {after : Array Edge} {d : Tmp}
theorem get_get! {s : ByteArray} {j : Nat} (h : j < s.size) : s[j]? = some (s.get! j) := by
  rw [getElem?_pos s j h]
  congr 1
  have hd : j < s.data.size := h
  show s.data[j] = s.data.getD j default
  simp [getElem?_pos s.data j hd]
theorem j_idxStr {t : TypeId} {n1 : Nat} {x y : Operand} {s : ByteArray} {ki : IntKind} {i : Int} [hs : TyC P t .string n1] (hx : ev fm x = some (.string s)) (hy : ev fm y = some (.int ki i)) (j : Nat) (hj : i = (j : Int)) (hlt : j < s.size) (hd : Nat.blt d n = true)
    (k : J n ((d, .int .u8 ((s.get! j).toNat : Nat)) :: fm) L (runS P EE ops K rest)) : J n fm L (runS P EE ops K (⟨some d, .index t x y, ty, pos, after, none⟩ :: rest)) :=
  j_pure (by first | (simp [cls]; done) | (simp only [cls]; split <;> simp; done) | (simp only [cls]; split <;> (try split) <;> simp)) (fun a w hr => by
    subst hj
    simp [execOp, hr.ev hx, hr.ev hy, Instr.index, asIntOf, run_underlying hs.und, get_get! hlt]) hd k
theorem j_fromStr {t : TypeId} {n1 : Nat} {x y : Operand} {s : ByteArray} {ki : IntKind} {i : Int} [hs : TyC P t .string n1] (l : Nat) (hx : ev fm x = some (.string s)) (hy : ev fm y = some (.int ki i)) (hi : i = (l : Int)) (hl : l ≤ s.size) (hd : Nat.blt d n = true)
    (k : J n ((d, .string (s.extract l s.size)) :: fm) L (runS P EE ops K rest)) : J n fm L (runS P EE ops K (⟨some d, .slice t x (some y) none none, ty, pos, after, none⟩ :: rest)) :=
  j_pure (by first | (simp [cls]; done) | (simp only [cls]; split <;> simp; done) | (simp only [cls]; split <;> (try split) <;> simp)) (fun a w hr => by
    subst hi
    have hb : (Instr.sliceBounds false s.size s.size (some (Value.int ki l)) none none).run P w = .ok (l, s.size, s.size) w := by
      simp [Instr.sliceBounds, Instr.sliceBound, asIntOf, hl]
    simp [execOp, hr.ev hx, hr.ev hy, Instr.sliceAt, Instr.slice, run_underlying hs.und, hb]) hd k
theorem j_mul {t t2 : TypeId} {x y : Operand} {a0 b0 : Int} (hx : ev fm x = some (.int .i64 a0)) (hy : ev fm y = some (.int .i64 b0)) (h : -9223372036854775808 ≤ a0 * b0 ∧ a0 * b0 ≤ 9223372036854775807) (hd : Nat.blt d n = true)
    (k : J n ((d, .int .i64 (a0 * b0)) :: fm) L (runS P EE ops K rest)) : J n fm L (runS P EE ops K (⟨some d, .binOp .mul t x y t2, ty, pos, after, none⟩ :: rest)) :=
  j_bin hx hy (by rw [binI, wrap64_id h]) hd k
end
end Go.Proofs.Ytnmfpgfgjjmfhaa
