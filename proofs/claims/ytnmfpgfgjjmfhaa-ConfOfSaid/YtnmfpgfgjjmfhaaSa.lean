/- More rules: make of a slice, complements. -/
import Derived.Test.YtnmfpgfgjjmfhaaSk
import Derived.Laws.MakeOwn
set_option linter.unusedVariables false
set_option linter.unusedSimpArgs false
namespace Go.Proofs.Ytnmfpgfgjjmfhaa
open Go

theorem made_flat (zs : List Value) (h0 : 0 < zs.length) (m : Nat) : (madeCells zs.toArray (m * zs.length)).toList = (List.replicate m zs).flatten := by
  have hl : ∀ x ∈ List.replicate m zs, x.length = zs.length := fun x hx => by rw [(List.mem_replicate.1 hx).2]
  have hfl := flatten_length (sz := zs.length) (List.replicate m zs) hl
  rw [List.length_replicate] at hfl
  refine List.ext_getElem? fun k => ?_
  by_cases hk : k < m * zs.length
  · have hd : k / zs.length < m := (Nat.div_lt_iff_lt_mul h0).2 hk
    have hm : k % zs.length < zs.length := Nat.mod_lt _ h0
    have e : k / zs.length * zs.length + k % zs.length = k := by rw [Nat.mul_comm]; exact Nat.div_add_mod _ _
    have := flatten_get (sz := zs.length) (List.replicate m zs) (k / zs.length) (k % zs.length) zs zs[k % zs.length] hl (by simp [hd]) (List.getElem?_eq_getElem hm)
    rw [e] at this
    rw [this]
    simp [madeCells, hk, hm]
  · rw [List.getElem?_eq_none (by simp [madeCells]; omega), List.getElem?_eq_none (by omega)]

section
variable {P : Program} {EE : EX} {n : Nat} {fm : Fm} {L : List HP} {ops : Array Oper} {K : Act → World → Prop} {rest : List Oper} {ty : TypeId} {pos : String} {after : Array Edge} {d : Tmp} {α : Type} [Enc α]

/-- 'make([]T, l, c)': an owned slice of zeros -/
theorem j_makeSl {t e : TypeId} {n1 by_ : Nat} {d1 : TypeDesc} {z : Value} {x y : Operand} {kl kc : IntKind} {l c : Int} [hs : TyC P t (.slice e) n1] [he : TyC P e d1 (Enc.sz α)] [hz : TyZ P e z by_] (x0 : α) (hv : z.cells.toList = Enc.enc x0) (li ci : Nat)
    (hx : ev fm x = some (.int kl l)) (hy : ev fm y = some (.int kc c)) (hli : l = li) (hci : c = ci) (hlc : li ≤ ci) (hb : by_ * ci ≤ 281474976710656) (hmx : ci ≤ maxLen) (hd : Nat.blt d n = true)
    (k : ∀ b, J n ((d, .slice (some ⟨b, 0, none⟩) li ci) :: fm) (Sl e (some ⟨b, 0, none⟩) ci (List.replicate li x0) :: L) (runS P EE ops K rest)) : J n fm L (runS P EE ops K (⟨some d, .makeSlice t x y, ty, pos, after, none⟩ :: rest)) := by
  subst hli hci
  have hpos := Enc.pos (α := α)
  have hzl : z.cells.toList.length = Enc.sz α := by rw [hv, Enc.len]
  refine j_write rfl (L' := fun v M => ∃ b, v = .slice (some ⟨b, 0, none⟩) li ci ∧ M = Sl e (some ⟨b, 0, none⟩) ci (List.replicate li x0) :: L) (fun a w hr hw => ?_) hd (fun v M ⟨b, hv, hM⟩ => by subst hv hM; exact k b)
  have h1 := he.size
  have h2 := hz.zero
  have h3 := hz.bytes
  cases hinf : P.info? e with
  | none => simp [hinf] at h1
  | some inf =>
    simp [hinf] at h1 h2 h3
    have hb' : (inf.bytes : Int) * (ci : Int) ≤ 281474976710656 := by
      rw [h3]
      have : ((by_ * ci : Nat) : Int) ≤ 281474976710656 := by omega
      rwa [Int.natCast_mul] at this
    have hm : maxLen ≤ 9223372036854775807 := by unfold maxLen; omega
    have hrun := run_make (P := P) w t e inf z hs.und hinf h2 kl kc li ci (by omega) (by omega) hb' (by omega)
    simp only [Int.toNat_natCast, h1] at hrun
    refine ⟨.slice (some ⟨w.heap.size, 0, none⟩) li ci, w.alloc (.cells (madeCells z.cells (ci * Enc.sz α)) e), Sl e (some ⟨w.heap.size, 0, none⟩) ci (List.replicate li x0) :: L, ?_, ⟨w.heap.size, rfl, rfl⟩, hw.new (A' := Sl e (some ⟨w.heap.size, 0, none⟩) ci (List.replicate li x0)) ?_ (fun b hb => heap_alloc_old w _ hb) ⟨rfl, rfl, rfl⟩⟩
    · simp only [execOp, hr.ev hx, hr.ev hy, Sem.run_bind, hrun, Result.andThen_ok, Sem.run_pure]
    · refine ⟨map_enc_len _, .inr ⟨w.heap.size, (List.replicate (ci - li) (Enc.enc x0)).flatten, rfl, Nat.le_refl _, ?_, hmx, ?_, by simpa using hlc⟩⟩
      · rw [heap_alloc_new]
        congr 2
        have e1 : (madeCells z.cells (ci * Enc.sz α)).toList = (List.replicate ci (Enc.enc x0)).flatten := by
          have := made_flat z.cells.toList (by rw [hzl]; exact hpos) ci
          rw [hzl, hv] at this
          rw [← this, ← hv]
        apply Array.toList_inj.1
        show _ = (_ : List Value)
        rw [e1, List.map_replicate, ← List.flatten_append, List.replicate_append_replicate, Nat.add_sub_cancel' hlc]
      · have : ((List.replicate (ci - li) (Enc.enc x0)).flatten).length = (ci - li) * Enc.sz α := by
          rw [flatten_length (sz := Enc.sz α) _ (fun x hx => by rw [(List.mem_replicate.1 hx).2, Enc.len]), List.length_replicate]
        rw [this]
        simp only [List.map_replicate, List.length_replicate]
        rw [← Nat.add_mul, Nat.add_sub_cancel' hlc]
        exact Nat.le_refl _
end
end Go.Proofs.Ytnmfpgfgjjmfhaa
