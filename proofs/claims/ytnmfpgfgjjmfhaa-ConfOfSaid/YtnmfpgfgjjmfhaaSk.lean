/- Structs held against each other, by their parts. -/
import Derived.Test.YtnmfpgfgjjmfhaaSj
import Derived.DeepKeys
set_option linter.unusedVariables false
set_option linter.unusedSimpArgs false
namespace Go.Proofs.Ytnmfpgfgjjmfhaa
open Go

section
variable {P : Program} {EE : EX} {n : Nat} {fm : Fm} {L : List HP} {ops : Array Oper} {K : Act → World → Prop} {rest : List Oper} {ty : TypeId} {pos : String} {after : Array Edge} {d : Tmp}

theorem sl_vw {α : Type} [Enc α] {T : TypeId} {a : Option Addr} {cap : Nat} {ls : List α} {w : World} {S : Nat → Prop} (h : Sl T a cap ls w S) : Vw w a ls := SlO.read h
theorem eq_deep {t : TypeId} {u v : List Value} {m : Nat} {lu lv : List Lit} (hk : P.keyTypeAt m t = true) (hm : m ≤ 9990) (fu : (Value.agg u.toArray).formed P t = true) (fv : (Value.agg v.toArray).formed P t = true)
    (hu : P.keyLits m t u = some lu) (hv : P.keyLits m t v = some lv) (w : World) : ∃ b : Bool, (Op.equalIn 10000 t (.agg u.toArray) (.agg v.toArray)).run P w = .ok b w ∧ (b = true ↔ lu = lv) := by
  have := run_equalIn_deep (P := P) (10000 - m) m t hk w m m (.agg u.toArray) (.agg v.toArray) lu lv fu fv (by simpa [Value.cells] using hu) (by simpa [Value.cells] using hv)
  rw [show 10000 - m + m = 10000 from by omega] at this
  exact this
theorem j_neD {t t2 : TypeId} {x y : Operand} {u v : List Value} (m : Nat) {lu lv : List Lit} (hk : P.keyTypeAt m t = true) (hm : m ≤ 9990) (hg : P.eqGuardType P.depth t = false) (fu : (Value.agg u.toArray).formed P t = true) (fv : (Value.agg v.toArray).formed P t = true)
    (hu : P.keyLits m t u = some lu) (hv : P.keyLits m t v = some lv) (hx : ev fm x = some (.agg u.toArray)) (hy : ev fm y = some (.agg v.toArray)) (hd : Nat.blt d n = true)
    (k : ∀ b : Bool, (b = true ↔ lu ≠ lv) → J n ((d, .bool b) :: fm) L (runS P EE ops K rest)) : J n fm L (runS P EE ops K (⟨some d, .binOp .neq t x y t2, ty, pos, after, none⟩ :: rest)) := by
  obtain ⟨b, hb, hpq⟩ := eq_deep hk hm fu fv hu hv default
  refine j_pure (v := .bool (!b)) (by simp [cls]) (fun a w hr => ?_) hd (k (!b) (by cases b <;> simp_all))
  obtain ⟨b', hb', hpq'⟩ := eq_deep hk hm fu fv hu hv w
  have : b' = b := by cases b <;> cases b' <;> simp_all
  subst this
  simp only [execOp, hr.ev hx, hr.ev hy, Sem.run_bind, run_eqGuard_agg w .neq t x y _ _ hg, Result.andThen_ok, run_neq_struct, hb', Sem.run_pure]
theorem j_eqD {t t2 : TypeId} {x y : Operand} {u v : List Value} (m : Nat) {lu lv : List Lit} (hk : P.keyTypeAt m t = true) (hm : m ≤ 9990) (hg : P.eqGuardType P.depth t = false) (fu : (Value.agg u.toArray).formed P t = true) (fv : (Value.agg v.toArray).formed P t = true)
    (hu : P.keyLits m t u = some lu) (hv : P.keyLits m t v = some lv) (hx : ev fm x = some (.agg u.toArray)) (hy : ev fm y = some (.agg v.toArray)) (hd : Nat.blt d n = true)
    (k : ∀ b : Bool, (b = true ↔ lu = lv) → J n ((d, .bool b) :: fm) L (runS P EE ops K rest)) : J n fm L (runS P EE ops K (⟨some d, .binOp .eql t x y t2, ty, pos, after, none⟩ :: rest)) := by
  obtain ⟨b, hb, hpq⟩ := eq_deep hk hm fu fv hu hv default
  refine j_pure (v := .bool b) (by simp [cls]) (fun a w hr => ?_) hd (k b hpq)
  obtain ⟨b', hb', hpq'⟩ := eq_deep hk hm fu fv hu hv w
  have : b' = b := by cases b <;> cases b' <;> simp_all
  subst this
  simp only [execOp, hr.ev hx, hr.ev hy, Sem.run_bind, run_eqGuard_agg w .eql t x y _ _ hg, Result.andThen_ok, run_eql_struct, hb', Sem.run_pure]
end
end Go.Proofs.Ytnmfpgfgjjmfhaa
