/- Ranges over strings. -/
import Derived.Test.YtnmfpgfgjjmfhaaSf
import Derived.Laws.RangeString
import Derived.Lib.RuneCount
set_option linter.unusedVariables false
set_option linter.unusedSimpArgs false
namespace Go.Proofs.Ytnmfpgfgjjmfhaa
open Go
section
variable {P : Program} {EE : EX} {n : Nat} {fm : Fm} {L : List HP} {ops : Array Oper} {K : Act → World → Prop} {rest : List Oper} {ty : TypeId} {pos : String} {after : Array Edge} {d : Tmp}
theorem j_rangeS {t : TypeId} {n1 : Nat} {x : Operand} {s : ByteArray} [ht : TyC P t .string n1] (hx : ev fm x = some (.string s)) (hd : Nat.blt d n = true)
    (kk : ∀ it, J n ((d, .pointer (some ⟨it, 0, none⟩)) :: fm) (pts it (.stringIter s 0) :: L) (runS P EE ops K rest)) : J n fm L (runS P EE ops K (⟨some d, .range t x, ty, pos, after, none⟩ :: rest)) := by
  refine j_write rfl (L' := fun v M => ∃ it, v = .pointer (some ⟨it, 0, none⟩) ∧ M = pts it (.stringIter s 0) :: L) (fun a w hr hw => ?_) hd (fun v M ⟨it, hv, hM⟩ => by subst hv hM; exact kk it)
  refine ⟨.pointer (some ⟨w.heap.size, 0, none⟩), w.alloc (.stringIter s 0), pts w.heap.size (.stringIter s 0) :: L, ?_, ⟨w.heap.size, rfl, rfl⟩, hw.new (A' := pts w.heap.size (.stringIter s 0)) ⟨Nat.le_refl _, heap_alloc_new w _⟩ (fun b hb => heap_alloc_old w _ hb) ⟨rfl, rfl, rfl⟩⟩
  simp only [execOp, hr.ev hx, Sem.run_bind, run_range_string (P := P) w t s ht.und, Result.andThen_ok, Sem.run_pure]
  rfl
theorem j_nextS {x : Operand} {it p : Nat} {s : ByteArray} {L' : Nat → List HP} (hx : ev fm x = some (.pointer (some ⟨it, 0, none⟩))) (hu : ∀ q, Up L (pts it (.stringIter s p)) (pts it (.stringIter s q)) (L' q)) (hd : Nat.blt d n = true)
    (k0 : ¬ p < s.size → J n ((d, .tuple #[.bool false]) :: fm) L (runS P EE ops K rest))
    (k1 : p < s.size → 1 ≤ (Utf8.decode s p).2 → J n ((d, .tuple #[.bool true, .int .i64 p, .int .i32 (Utf8.decode s p).1]) :: fm) (L' (p + (Utf8.decode s p).2)) (runS P EE ops K rest)) :
    J n fm L (runS P EE ops K (⟨some d, .next x true, ty, pos, after, none⟩ :: rest)) := by
  refine j_write rfl (L' := fun v M => (v = .tuple #[.bool false] ∧ M = L ∧ ¬ p < s.size) ∨ (p < s.size ∧ v = .tuple #[.bool true, .int .i64 p, .int .i32 (Utf8.decode s p).1] ∧ M = L' (p + (Utf8.decode s p).2))) (fun a w hr hw => ?_) hd (fun v M h => by
    rcases h with ⟨hv, hM, h⟩ | ⟨h1, hv, hM⟩
    · subst hv hM; exact k0 h
    · subst hv hM; exact k1 h1 (Go.Lib.decode_width_pos s p h1))
  obtain ⟨i, hi, hL⟩ := (hu 0).get
  have hk := hw.hpts hi
  by_cases h : p < s.size
  · refine ⟨_, { w with heap := w.heap.setIfInBounds it (.stringIter s (p + (Utf8.decode s p).2)) }, _, ?_, .inr ⟨h, rfl, rfl⟩, ?_⟩
    · simp only [execOp, hr.ev hx, Instr.next, getObj, setObj, Sem.run_bind, Sem.run, hk, Result.andThen, h, if_true]
      simp [goInt]
    · refine hw.up (hu _) (fun S hS => ⟨⟨.inl hS.1, ?_⟩, fun b hb hSb => ?_⟩) ⟨rfl, rfl, rfl⟩
      · have hlt : it < w.heap.size := (Array.getElem?_eq_some_iff.1 hk).1
        simp [hlt]
      · have hne : it ≠ b := fun he => hSb (he ▸ hS.1)
        simp [Array.getElem?_setIfInBounds_ne hne]
  · refine ⟨_, w, _, ?_, .inl ⟨rfl, rfl, h⟩, hw⟩
    simp [execOp, hr.ev hx, Instr.next, getObj, Sem.run, hk, h]
/-- an array's zero -/
theorem j_buildA0 {t e : TypeId} {len n1 sz : Nat} {d1 : TypeDesc} {zl : List Value} {by_ : Nat} [hs : TyC P t (.array len e) n1] [he : TyC P e d1 sz] [hz : TyZ P t (.agg zl.toArray) by_] (hd : Nat.blt d n = true)
    (k : J n ((d, .agg zl.toArray) :: fm) L (runS P EE ops K rest)) : J n fm L (runS P EE ops K (⟨some d, .build t #[], ty, pos, after, none⟩ :: rest)) :=
  j_pure (by first | (simp [cls]; done) | (simp only [cls]; split <;> simp; done) | (simp only [cls]; split <;> (try split) <;> simp)) (fun a w hr => by
    have hz0 := hz.zero
    have hbuilt : P.built t [] = some zl.toArray := by
      unfold Program.built
      cases hinf : P.info? t with
      | none => simp [hinf] at hz0
      | some inf =>
        simp [hinf] at hz0
        simp only [hs.und, hz0]
        have h1 := he.size
        cases hie : P.info? e with
        | none => simp [hie] at h1
        | some ie => simp [Instr.fill, Value.cells]
    simp [execOp, run_build (P := P) w t #[] zl.toArray (by simpa using hbuilt)]) hd k
def fldS (P : Program) (s : TypeId) (i off : Nat) : Bool := match P.underlying s with
  | some (.struct fs) => match fs[i]? with
    | some f => f.offset == off && (match P.underlying f.type with | some d => !aggT d | none => false)
    | none => false
  | _ => false
theorem j_field {s : TypeId} {x : Operand} {i : Nat} (off : Nat) {l : List Value} {v : Value} (h : fldS P s i off = true) (hx : ev fm x = some (.agg l.toArray)) (hv : l[off]? = some v) (hd : Nat.blt d n = true)
    (k : J n ((d, v) :: fm) L (runS P EE ops K rest)) : J n fm L (runS P EE ops K (⟨some d, .field s x i, ty, pos, after, none⟩ :: rest)) :=
  j_pure (by first | (simp [cls]; done) | (simp only [cls]; split <;> simp; done) | (simp only [cls]; split <;> (try split) <;> simp)) (fun a w hr => by
    unfold fldS at h
    split at h
    · rename_i fs hu
      split at h
      · rename_i f hfi
        simp only [Bool.and_eq_true, beq_iff_eq] at h
        obtain ⟨rfl, hf⟩ := h
        split at hf
        · rename_i dd hdd
          have ha : aggT dd = false := by simpa using hf
          have hp : (part f.type l.toArray f.offset).run P w = .ok v w := by
            simp [part, run_isAgg hdd, ha, hv]
          simp [execOp, hr.ev hx, Instr.field, run_underlying hu, hfi, asAgg, hp]
        · cases hf
      · cases h
    · cases h) hd k
theorem pk_nil {A : List HP} : Pk (A ++ []) A := by rw [List.append_nil]; exact .refl
theorem j_retnX {fn : Func} {R : Ending → World → Prop} (h : J n fm L (bodyPost P fn R .ret)) : J n fm L (bodyPost P fn R .normal) := h
end
end Go.Proofs.Ytnmfpgfgjjmfhaa
