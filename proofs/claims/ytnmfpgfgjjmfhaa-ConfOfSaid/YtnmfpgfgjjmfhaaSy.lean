/-
  The rules of operations and of calls.
-/
import Derived.Test.YtnmfpgfgjjmfhaaSx
set_option linter.unusedVariables false
set_option linter.unusedSimpArgs false
namespace Go.Proofs.Ytnmfpgfgjjmfhaa
open Go

section
variable {P : Program} {EE : EX} {n : Nat} {fm : Fm} {L : List HP} {ops : Array Oper} {K : Act → World → Prop} {rest : List Oper} {d : Nat} {ty : TypeId} {pos : String} {after : Array Edge}

theorem runS_pos {o : Oper} (hg : o.guard = none) {a : Act} {w : World} (h : doS P EE o (runS P EE ops K rest) a w (cls P o.op)) : runS P EE ops K (o :: rest) a w := by
  show stepS P EE ops o (runS P EE ops K rest) a w
  rw [stepS_pos (by simp [Region.wanted, hg])]
  exact h

theorem doS_val {o : Oper} {a : Act} {w : World} {v : Value} {K : Act → World → Prop} (hrun : ∀ w, (execOp a.eval o).run P w = .ok (.value v) w) (h : K (a.put o.dst v) w) (m : Md) (hm : m ≠ .n) : doS P EE o K a w m := by
  cases m with
  | p => exact ⟨v, hrun, h⟩
  | r => exact ⟨v, fun w' _ => hrun w', h⟩
  | n => exact absurd rfl hm
  | w => simp only [doS, hrun w]; exact afterW_value h

/-- an operation that hangs on no memory -/
theorem j_pure {op : Op} {v : Value} (hcls : cls P op ≠ .n) (hrun : ∀ a w, Rep n fm a → (execOp a.eval ⟨some d, op, ty, pos, after, none⟩).run P w = .ok (.value v) w) (hd : Nat.blt d n = true)
    (k : J n ((d, v) :: fm) L (runS P EE ops K rest)) : J n fm L (runS P EE ops K (⟨some d, op, ty, pos, after, none⟩ :: rest)) :=
  fun a w hr hw => runS_pos rfl (doS_val (fun w' => hrun a w' hr) (k _ w (hr.put hd v) hw) _ hcls)

/-- an operation that reads -/
theorem j_read {op : Op} {v : Value} (hcls : cls P op ≠ .p ∧ cls P op ≠ .n) (hrun : ∀ a w, Rep n fm a → Sat L w → (execOp a.eval ⟨some d, op, ty, pos, after, none⟩).run P w = .ok (.value v) w) (hd : Nat.blt d n = true)
    (k : J n ((d, v) :: fm) L (runS P EE ops K rest)) : J n fm L (runS P EE ops K (⟨some d, op, ty, pos, after, none⟩ :: rest)) := by
  intro a w hr hw
  refine runS_pos rfl ?_
  have h1 := hrun a w hr hw
  have h2 := k _ w (hr.put hd v) hw
  have h3 := fun w' (e : Ext w w') => hrun a w' hr (hw.ext e)
  show doS P EE _ _ a w (cls P op)
  generalize cls P op = m at hcls ⊢
  cases m with
  | p => exact absurd rfl hcls.1
  | r => exact ⟨v, h3, h2⟩
  | n => exact absurd rfl hcls.2
  | w => simp only [doS, h1]; exact afterW_value h2

/-- an operation that lays a new block -/
theorem j_new {op : Op} {T : TypeId} {l : List Value} {f : Nat → Value} (hcls : cls P op = .n) (hrun : ∀ a w, Rep n fm a → (execOp a.eval ⟨some d, op, ty, pos, after, none⟩).run P w = .ok (.value (f w.heap.size)) (w.alloc (.cells l.toArray T))) (hd : Nat.blt d n = true)
    (k : ∀ b, J n ((d, f b) :: fm) (blk b T l :: L) (runS P EE ops K rest)) : J n fm L (runS P EE ops K (⟨some d, op, ty, pos, after, none⟩ :: rest)) := by
  intro a w hr hw
  refine runS_pos rfl ?_
  show doS P EE _ _ a w (cls P op)
  rw [hcls]
  exact ⟨_, f, fun w' => hrun a w' hr, k _ _ _ (hr.put hd _) (hw.alloc T l)⟩

/-- an operation that writes, with a result -/
theorem j_write {op : Op} (hcls : cls P op = .w) {L' : Value → List HP → Prop} (hrun : ∀ a w, Rep n fm a → Sat L w → ∃ v w' M, (execOp a.eval ⟨some d, op, ty, pos, after, none⟩).run P w = .ok (.value v) w' ∧ L' v M ∧ Sat M w') (hd : Nat.blt d n = true)
    (k : ∀ v M, L' v M → J n ((d, v) :: fm) M (runS P EE ops K rest)) : J n fm L (runS P EE ops K (⟨some d, op, ty, pos, after, none⟩ :: rest)) := by
  intro a w hr hw
  refine runS_pos rfl ?_
  obtain ⟨v, w', M, h1, h2, h3⟩ := hrun a w hr hw
  show doS P EE _ _ a w (cls P op)
  rw [hcls]
  simp only [doS, h1]
  exact afterW_value (k v M h2 _ w' (hr.put hd v) h3)

/-- an operation that writes, without one -/
theorem j_store {op : Op} (hcls : cls P op = .w) {M : List HP} (hrun : ∀ a w, Rep n fm a → Sat L w → ∃ w', (execOp a.eval ⟨none, op, ty, pos, after, none⟩).run P w = .ok .skip w' ∧ Sat M w')
    (k : J n fm M (runS P EE ops K rest)) : J n fm L (runS P EE ops K (⟨none, op, ty, pos, after, none⟩ :: rest)) := by
  intro a w hr hw
  refine runS_pos rfl ?_
  obtain ⟨w', h1, h3⟩ := hrun a w hr hw
  show doS P EE _ _ a w (cls P op)
  rw [hcls]
  simp only [doS, h1]
  exact afterW_skip (k _ w' hr h3)

/-! ### guards -/
theorem j_gno {dst : Option Tmp} {op : Op} {j t : Nat} {b c : Bool} (ht : (ops[j]?).bind (·.dst) = some t) (hv : look fm t = some (.bool c)) (hcb : (c == b) = false) (k : J n fm L (runS P EE ops K rest)) (hd : dst = none ∨ ∃ d, dst = some d ∧ Nat.blt d n = true ∧ look fm d = none) :
    J n fm L (runS P EE ops K (⟨dst, op, ty, pos, after, some (j, b)⟩ :: rest)) := by
  intro a w hr hw
  show stepS P EE ops _ (runS P EE ops K rest) a w
  have hy : yielded ops a.tmps j = some c := by
    simp [yielded, ht, hr.slot t _ hv]
  rw [stepS_neg (by simp [Region.wanted, hy]; simpa using hcb)]
  rcases hd with rfl | ⟨d, rfl, hd, hno⟩
  · exact k a w hr hw
  · have := hr.put hd undef
    refine k _ w ⟨this.defers, this.size, fun i v hi => this.slot i v ?_⟩ hw
    rw [look_cons]
    by_cases hdi : d = i
    · subst hdi; rw [hno] at hi; cases hi
    · rw [if_neg hdi]; exact hi
theorem j_gno_u {d : Tmp} {op : Op} {j t : Nat} {b c : Bool} (ht : (ops[j]?).bind (·.dst) = some t) (hv : look fm t = some (.bool c)) (hcb : (c == b) = false) (hd : Nat.blt d n = true) (k : J n ((d, undef) :: fm) L (runS P EE ops K rest)) :
    J n fm L (runS P EE ops K (⟨some d, op, ty, pos, after, some (j, b)⟩ :: rest)) := by
  intro a w hr hw
  show stepS P EE ops _ (runS P EE ops K rest) a w
  have hy : yielded ops a.tmps j = some c := by
    simp [yielded, ht, hr.slot t _ hv]
  rw [stepS_neg (by simp [Region.wanted, hy]; simpa using hcb)]
  exact k _ w (hr.put hd undef) hw
theorem j_gno_n {op : Op} {j t : Nat} {b c : Bool} (ht : (ops[j]?).bind (·.dst) = some t) (hv : look fm t = some (.bool c)) (hcb : (c == b) = false) (k : J n fm L (runS P EE ops K rest)) :
    J n fm L (runS P EE ops K (⟨none, op, ty, pos, after, some (j, b)⟩ :: rest)) :=
  j_gno ht hv hcb k (.inl rfl)
theorem j_gun_u {d : Tmp} {op : Op} {j t : Nat} {b : Bool} (ht : (ops[j]?).bind (·.dst) = some t) (hv : look fm t = some undef) (hd : Nat.blt d n = true) (k : J n ((d, undef) :: fm) L (runS P EE ops K rest)) :
    J n fm L (runS P EE ops K (⟨some d, op, ty, pos, after, some (j, b)⟩ :: rest)) := by
  intro a w hr hw
  show stepS P EE ops _ (runS P EE ops K rest) a w
  have hy : yielded ops a.tmps j = none := by
    simp [yielded, ht, hr.slot t _ hv, undef]
  rw [stepS_neg (by simp [Region.wanted, hy])]
  exact k _ w (hr.put hd undef) hw
theorem j_gun_n {op : Op} {j t : Nat} {b : Bool} (ht : (ops[j]?).bind (·.dst) = some t) (hv : look fm t = some undef) (k : J n fm L (runS P EE ops K rest)) :
    J n fm L (runS P EE ops K (⟨none, op, ty, pos, after, some (j, b)⟩ :: rest)) := by
  intro a w hr hw
  show stepS P EE ops _ (runS P EE ops K rest) a w
  have hy : yielded ops a.tmps j = none := by
    simp [yielded, ht, hr.slot t _ hv, undef]
  rw [stepS_neg (by simp [Region.wanted, hy])]
  exact k a w hr hw
theorem j_gyes {dst : Option Tmp} {op : Op} {j t : Nat} {b c : Bool} (ht : (ops[j]?).bind (·.dst) = some t) (hv : look fm t = some (.bool c)) (hcb : (c == b) = true) (k : J n fm L (runS P EE ops K (⟨dst, op, ty, pos, after, none⟩ :: rest))) :
    J n fm L (runS P EE ops K (⟨dst, op, ty, pos, after, some (j, b)⟩ :: rest)) := by
  intro a w hr hw
  have h := k a w hr hw
  have hy : yielded ops a.tmps j = some c := by
    simp [yielded, ht, hr.slot t _ hv]
  change stepS P EE ops _ (runS P EE ops K rest) a w at h
  show stepS P EE ops _ (runS P EE ops K rest) a w
  rw [stepS_pos (by simp [Region.wanted])] at h
  rw [stepS_pos (by simp [Region.wanted, hy]; simpa using hcb)]
  exact h

theorem j_gsplit_dec {dst : Option Tmp} {op : Op} {j t : Nat} {b : Bool} {p : Prop} [Decidable p] (ht : (ops[j]?).bind (·.dst) = some t) (hv : look fm t = some (.bool (decide p)))
    (h1 : p → J n ((t, .bool true) :: fm) L (runS P EE ops K (⟨dst, op, ty, pos, after, some (j, b)⟩ :: rest))) (h2 : ¬ p → J n ((t, .bool false) :: fm) L (runS P EE ops K (⟨dst, op, ty, pos, after, some (j, b)⟩ :: rest))) :
    J n fm L (runS P EE ops K (⟨dst, op, ty, pos, after, some (j, b)⟩ :: rest)) := j_split_dec hv h1 h2
theorem j_gsplit {dst : Option Tmp} {op : Op} {j t : Nat} {b c : Bool} (ht : (ops[j]?).bind (·.dst) = some t) (hv : look fm t = some (.bool c))
    (h1 : c = true → J n ((t, .bool true) :: fm) L (runS P EE ops K (⟨dst, op, ty, pos, after, some (j, b)⟩ :: rest))) (h2 : c = false → J n ((t, .bool false) :: fm) L (runS P EE ops K (⟨dst, op, ty, pos, after, some (j, b)⟩ :: rest))) :
    J n fm L (runS P EE ops K (⟨dst, op, ty, pos, after, some (j, b)⟩ :: rest)) := j_split hv h1 h2

/-! ### pure operations -/
theorem j_move {x : Operand} {v : Value} (hx : ev fm x = some v) (hd : Nat.blt d n = true) (k : J n ((d, v) :: fm) L (runS P EE ops K rest)) : J n fm L (runS P EE ops K (⟨some d, .move x, ty, pos, after, none⟩ :: rest)) :=
  j_pure (by first | (simp [cls]; done) | (simp only [cls]; split <;> simp; done) | (simp only [cls]; split <;> (try split) <;> simp)) (fun a w hr => by simp [execOp, hr.ev hx]) hd k
theorem j_assign {x : Operand} {v : Value} (hx : ev fm x = some v) (hd : Nat.blt d n = true) (k : J n ((d, v) :: fm) L (runS P EE ops K rest)) : J n fm L (runS P EE ops K (⟨some d, .assign x, ty, pos, after, none⟩ :: rest)) :=
  j_pure (by first | (simp [cls]; done) | (simp only [cls]; split <;> simp; done) | (simp only [cls]; split <;> (try split) <;> simp)) (fun a w hr => by simp [execOp, hr.ev hx]) hd k
theorem j_pick_t {c x y : Operand} {v : Value} (hc : ev fm c = some (.bool true)) (hx : ev fm x = some v) (hd : Nat.blt d n = true) (k : J n ((d, v) :: fm) L (runS P EE ops K rest)) : J n fm L (runS P EE ops K (⟨some d, .pick c x y, ty, pos, after, none⟩ :: rest)) :=
  j_pure (by first | (simp [cls]; done) | (simp only [cls]; split <;> simp; done) | (simp only [cls]; split <;> (try split) <;> simp)) (fun a w hr => by simp [execOp, hr.ev hc, hr.ev hx, asBool]) hd k
theorem j_pick_f {c x y : Operand} {v : Value} (hc : ev fm c = some (.bool false)) (hx : ev fm y = some v) (hd : Nat.blt d n = true) (k : J n ((d, v) :: fm) L (runS P EE ops K rest)) : J n fm L (runS P EE ops K (⟨some d, .pick c x y, ty, pos, after, none⟩ :: rest)) :=
  j_pure (by first | (simp [cls]; done) | (simp only [cls]; split <;> simp; done) | (simp only [cls]; split <;> (try split) <;> simp)) (fun a w hr => by simp [execOp, hr.ev hc, hr.ev hx, asBool]) hd k
theorem j_nilCheck {x : Operand} {a0 : Addr} (hx : ev fm x = some (.pointer (some a0))) (hd : Nat.blt d n = true) (k : J n ((d, .pointer (some a0)) :: fm) L (runS P EE ops K rest)) : J n fm L (runS P EE ops K (⟨some d, .nilCheck x, ty, pos, after, none⟩ :: rest)) :=
  j_pure (by first | (simp [cls]; done) | (simp only [cls]; split <;> simp; done) | (simp only [cls]; split <;> (try split) <;> simp)) (fun a w hr => by simp [execOp, hr.ev hx]) hd k
theorem j_nilCheck_fn {x : Operand} {f : FuncId} {c1 c2 : Array Value} (hx : ev fm x = some (.func (.func f) c1 c2)) (hd : Nat.blt d n = true) (k : J n ((d, .func (.func f) c1 c2) :: fm) L (runS P EE ops K rest)) : J n fm L (runS P EE ops K (⟨some d, .nilCheck x, ty, pos, after, none⟩ :: rest)) :=
  j_pure (by first | (simp [cls]; done) | (simp only [cls]; split <;> simp; done) | (simp only [cls]; split <;> (try split) <;> simp)) (fun a w hr => by simp [execOp, hr.ev hx]) hd k

theorem add_lit (b o m : Nat) : (⟨b, o, none⟩ : Addr).add m = ⟨b, o + m, none⟩ := by
  unfold Addr.add
  split
  · rename_i h; subst h; rfl
  · rfl

def fldB (P : Program) (s : TypeId) (i off : Nat) : Bool := match P.underlying s with
  | some (.struct fs) => match fs[i]? with
    | some f => f.offset == off && (match P.info? f.type with | some inf => inf.size != 0 | none => false)
    | none => false
  | _ => false
class Fld (P : Program) (s : TypeId) (i : Nat) (off : outParam Nat) : Prop where
  fld : fldB P s i off = true
theorem j_fieldAddr {s : TypeId} {x : Operand} {i off : Nat} {b o : Nat} [hs : Fld P s i off]
    (hx : ev fm x = some (.pointer (some ⟨b, o, none⟩))) (hd : Nat.blt d n = true) (k : J n ((d, .pointer (some ⟨b, o + off, none⟩)) :: fm) L (runS P EE ops K rest)) :
    J n fm L (runS P EE ops K (⟨some d, .fieldAddr s x i, ty, pos, after, none⟩ :: rest)) :=
  j_pure (by first | (simp [cls]; done) | (simp only [cls]; split <;> simp; done) | (simp only [cls]; split <;> (try split) <;> simp)) (fun a w hr => by
    have hf := hs.fld
    unfold fldB at hf
    split at hf
    · rename_i fs hu
      split at hf
      · rename_i f hfi
        simp only [Bool.and_eq_true, beq_iff_eq] at hf
        obtain ⟨rfl, hf⟩ := hf
        split at hf
        · rename_i inf hinf
          have hk : inf.size ≠ 0 := by simpa using hf
          simp [execOp, hr.ev hx, Instr.fieldAt, run_underlying hu, hfi, Instr.sureAddr, fieldPlace, sizeOf, typeInfo, hinf, hk, add_lit]
        · cases hf
      · cases hf
    · cases hf) hd k

/-- what two integers come to -/
def binI (op : BinOp) (k : IntKind) (x y : Int) : Option Value := match op with
  | .add => some (.int k (k.wrap (x + y)))
  | .sub => some (.int k (k.wrap (x - y)))
  | .mul => some (.int k (k.wrap (x * y)))
  | .and => some (.int k (k.wrap (BitVec.ofInt k.bits x &&& BitVec.ofInt k.bits y).toNat))
  | .or => some (.int k (k.wrap (BitVec.ofInt k.bits x ||| BitVec.ofInt k.bits y).toNat))
  | .xor => some (.int k (k.wrap (BitVec.ofInt k.bits x ^^^ BitVec.ofInt k.bits y).toNat))
  | .andNot => some (.int k (k.wrap (BitVec.ofInt k.bits x &&& ~~~ BitVec.ofInt k.bits y).toNat))
  | .eql => some (.bool (decide (x = y)))
  | .neq => some (.bool (decide (x ≠ y)))
  | .lss => some (.bool (decide (x < y)))
  | .leq => some (.bool (decide (x ≤ y)))
  | .gtr => some (.bool (decide (x > y)))
  | .geq => some (.bool (decide (x ≥ y)))
  | _ => none

theorem run_binI {op : BinOp} {t : TypeId} {k : IntKind} {x y : Int} {v : Value} (h : binI op k x y = some v) (w : World) : (binOp op t (.int k x) (.int k y)).run P w = .ok v w := by
  cases op <;> simp [binI] at h <;> subst h <;> simp [binOp, Op.intArith, Op.intBits, Op.intCmp]
  all_goals (by_cases hxy : x = y <;> simp [hxy])

theorem run_eqGuard_int {op : BinOp} {t : TypeId} {x y : Operand} {k k' : IntKind} {a b : Int} (w : World) : (eqGuard op t x y (.int k a) (.int k' b)).run P w = .ok () w := by
  unfold eqGuard
  cases op <;> simp

theorem j_bin {op : BinOp} {t t2 : TypeId} {x y : Operand} {ki : IntKind} {a0 b0 : Int} {v : Value} (hx : ev fm x = some (.int ki a0)) (hy : ev fm y = some (.int ki b0)) (hv : binI op ki a0 b0 = some v) (hd : Nat.blt d n = true)
    (k : J n ((d, v) :: fm) L (runS P EE ops K rest)) : J n fm L (runS P EE ops K (⟨some d, .binOp op t x y t2, ty, pos, after, none⟩ :: rest)) :=
  j_pure (by first | (simp [cls]; done) | (simp only [cls]; split <;> simp; done) | (simp only [cls]; split <;> (try split) <;> simp)) (fun a w hr => by
    simp only [execOp, hr.ev hx, hr.ev hy, Sem.run_bind, run_eqGuard_int, Result.andThen_ok, run_binI hv, Sem.run_pure]) hd k

theorem byteArray_toList (s : ByteArray) : s.toList = s.data.toList := by
  have key : ∀ (n i : Nat) (r : List UInt8), s.size - i = n → ByteArray.toList.loop s i r = r.reverse ++ s.data.toList.drop i := by
    intro n
    induction n with
    | zero =>
      intro i r h
      unfold ByteArray.toList.loop
      rw [if_neg (by omega)]
      have : s.data.toList.length ≤ i := by
        have : s.data.toList.length = s.size := by rw [Array.length_toList]; rfl
        omega
      simp [List.drop_eq_nil_of_le this]
    | succ n ih =>
      intro i r h
      unfold ByteArray.toList.loop
      rw [if_pos (by omega), ih (i + 1) _ (by omega)]
      have hlt : i < s.data.toList.length := by
        have : s.data.toList.length = s.size := by rw [Array.length_toList]; rfl
        omega
      rw [List.drop_eq_getElem_cons hlt]
      have hi : i < s.data.size := by simpa using hlt
      simp only [ByteArray.get!, List.reverse_cons, List.append_assoc, List.cons_append, List.nil_append, Array.getElem_toList]
      rw [getElem!_pos s.data i hi]
  have := key s.size 0 [] (by omega)
  unfold ByteArray.toList
  simpa using this
theorem byteArray_ext {p q : ByteArray} (h : p.toList = q.toList) : p = q := by
  rw [byteArray_toList, byteArray_toList] at h
  cases p; cases q
  simp only [ByteArray.mk.injEq]
  exact Array.toList_inj.1 h
theorem wrap_id {k : IntKind} {x : Int} (h1 : k.min ≤ x) (h2 : x ≤ k.max) : k.wrap x = x := by
  cases k <;> simp [IntKind.wrap, IntKind.min, IntKind.max, IntKind.signed, IntKind.bits] at * <;> omega
theorem wrap64_id {x : Int} (h : -9223372036854775808 ≤ x ∧ x ≤ 9223372036854775807) : IntKind.i64.wrap x = x := wrap_id (by simpa [IntKind.min, IntKind.signed, IntKind.bits] using h.1) (by simpa [IntKind.max, IntKind.signed, IntKind.bits] using h.2)

/-- a sum of two ints that does not wrap -/
theorem j_add {t t2 : TypeId} {x y : Operand} {a0 b0 : Int} (hx : ev fm x = some (.int .i64 a0)) (hy : ev fm y = some (.int .i64 b0)) (h : -9223372036854775808 ≤ a0 + b0 ∧ a0 + b0 ≤ 9223372036854775807) (hd : Nat.blt d n = true)
    (k : J n ((d, .int .i64 (a0 + b0)) :: fm) L (runS P EE ops K rest)) : J n fm L (runS P EE ops K (⟨some d, .binOp .add t x y t2, ty, pos, after, none⟩ :: rest)) :=
  j_bin hx hy (by simp only [binI, wrap64_id h]) hd k
theorem j_sub_ {t t2 : TypeId} {x y : Operand} {a0 b0 : Int} (hx : ev fm x = some (.int .i64 a0)) (hy : ev fm y = some (.int .i64 b0)) (h : -9223372036854775808 ≤ a0 - b0 ∧ a0 - b0 ≤ 9223372036854775807) (hd : Nat.blt d n = true)
    (k : J n ((d, .int .i64 (a0 - b0)) :: fm) L (runS P EE ops K rest)) : J n fm L (runS P EE ops K (⟨some d, .binOp .sub t x y t2, ty, pos, after, none⟩ :: rest)) :=
  j_bin hx hy (by simp only [binI, wrap64_id h]) hd k

theorem j_shr {t t2 : TypeId} {x y : Operand} {ki kj : IntKind} {a0 b0 : Int} (hx : ev fm x = some (.int ki a0)) (hy : ev fm y = some (.int kj b0)) (h : 0 ≤ b0) (hd : Nat.blt d n = true)
    (k : J n ((d, .int ki (a0.fdiv (2 ^ (min b0.toNat ki.bits)))) :: fm) L (runS P EE ops K rest)) : J n fm L (runS P EE ops K (⟨some d, .binOp .shr t x y t2, ty, pos, after, none⟩ :: rest)) :=
  j_pure (by first | (simp [cls]; done) | (simp only [cls]; split <;> simp; done) | (simp only [cls]; split <;> (try split) <;> simp)) (fun a w hr => by
    simp only [execOp, hr.ev hx, hr.ev hy, Sem.run_bind, run_eqGuard_int, Result.andThen_ok, binOp, Op.shift]
    rw [if_neg (by omega)]
    simp) hd k
theorem j_shl {t t2 : TypeId} {x y : Operand} {ki kj : IntKind} {a0 b0 : Int} (hx : ev fm x = some (.int ki a0)) (hy : ev fm y = some (.int kj b0)) (h : 0 ≤ b0) (hd : Nat.blt d n = true)
    (k : J n ((d, .int ki (ki.wrap (a0 * 2 ^ (min b0.toNat ki.bits)))) :: fm) L (runS P EE ops K rest)) : J n fm L (runS P EE ops K (⟨some d, .binOp .shl t x y t2, ty, pos, after, none⟩ :: rest)) :=
  j_pure (by first | (simp [cls]; done) | (simp only [cls]; split <;> simp; done) | (simp only [cls]; split <;> (try split) <;> simp)) (fun a w hr => by
    simp only [execOp, hr.ev hx, hr.ev hy, Sem.run_bind, run_eqGuard_int, Result.andThen_ok, binOp, Op.shift]
    rw [if_neg (by omega)]
    simp) hd k

theorem j_not {t : TypeId} {x : Operand} {p : Prop} [Decidable p] (hx : ev fm x = some (.bool (decide p))) (hd : Nat.blt d n = true)
    (k : J n ((d, .bool (decide (¬ p))) :: fm) L (runS P EE ops K rest)) : J n fm L (runS P EE ops K (⟨some d, .unOp .not t x, ty, pos, after, none⟩ :: rest)) :=
  j_pure (by first | (simp [cls]; done) | (simp only [cls]; split <;> simp; done) | (simp only [cls]; split <;> (try split) <;> simp)) (fun a w hr => by simp [execOp, hr.ev hx, Op.unary]) hd k
theorem j_not_b {t : TypeId} {x : Operand} {b : Bool} (hx : ev fm x = some (.bool b)) (hd : Nat.blt d n = true)
    (k : J n ((d, .bool (!b)) :: fm) L (runS P EE ops K rest)) : J n fm L (runS P EE ops K (⟨some d, .unOp .not t x, ty, pos, after, none⟩ :: rest)) :=
  j_pure (by first | (simp [cls]; done) | (simp only [cls]; split <;> simp; done) | (simp only [cls]; split <;> (try split) <;> simp)) (fun a w hr => by simp [execOp, hr.ev hx, Op.unary]) hd k

theorem run_equalIn_sl {t e : TypeId} {n1 : Nat} [hs : TyC P t (.slice e) n1] (q : Nat) (a0 : Option Addr) (len cap : Nat) (w : World) : (Op.equalIn (q + 1) t (.slice a0 len cap) (.slice none 0 0)).run P w = .ok a0.isNone w := by
  simp only [Op.equalIn, Sem.run_bind, run_underlying hs.und, Result.andThen_ok]
  cases a0 <;> rfl
theorem run_eq_nil {t e : TypeId} {n1 : Nat} [hs : TyC P t (.slice e) n1] (a0 : Option Addr) (len cap : Nat) (w : World) : (Op.equal t (.slice a0 len cap) (.slice none 0 0)).run P w = .ok a0.isNone w :=
  run_equalIn_sl 9999 a0 len cap w
theorem run_equalIn_ptr {t e : TypeId} {n1 : Nat} [hs : TyC P t (.pointer e) n1] (q : Nat) (a0 : Option Addr) (w : World) : (Op.equalIn (q + 1) t (.pointer a0) (.pointer none)).run P w = .ok a0.isNone w := by
  simp only [Op.equalIn, Sem.run_bind, run_underlying hs.und, Result.andThen_ok]
  cases a0 <;> rfl
theorem run_eq_ptrnil {t e : TypeId} {n1 : Nat} [hs : TyC P t (.pointer e) n1] (a0 : Option Addr) (w : World) : (Op.equal t (.pointer a0) (.pointer none)).run P w = .ok a0.isNone w :=
  run_equalIn_ptr 9999 a0 w
theorem j_eqnil {t t2 e : TypeId} {n1 : Nat} {x y : Operand} {a0 : Option Addr} {len cap : Nat} [hs : TyC P t (.slice e) n1] (hx : ev fm x = some (.slice a0 len cap)) (hy : ev fm y = some (.slice none 0 0)) (hd : Nat.blt d n = true)
    (k : J n ((d, .bool (decide (a0 = none))) :: fm) L (runS P EE ops K rest)) : J n fm L (runS P EE ops K (⟨some d, .binOp .eql t x y t2, ty, pos, after, none⟩ :: rest)) :=
  j_pure (by first | (simp [cls]; done) | (simp only [cls]; split <;> simp; done) | (simp only [cls]; split <;> (try split) <;> simp)) (fun a w hr => by
    have : (decide (a0 = none)) = a0.isNone := by cases a0 <;> simp
    simp [execOp, hr.ev hx, hr.ev hy, eqGuard, binOp, run_eq_nil, this]) hd k
theorem j_nenil {t t2 e : TypeId} {n1 : Nat} {x y : Operand} {a0 : Option Addr} {len cap : Nat} [hs : TyC P t (.slice e) n1] (hx : ev fm x = some (.slice a0 len cap)) (hy : ev fm y = some (.slice none 0 0)) (hd : Nat.blt d n = true)
    (k : J n ((d, .bool (decide (a0 ≠ none))) :: fm) L (runS P EE ops K rest)) : J n fm L (runS P EE ops K (⟨some d, .binOp .neq t x y t2, ty, pos, after, none⟩ :: rest)) :=
  j_pure (by first | (simp [cls]; done) | (simp only [cls]; split <;> simp; done) | (simp only [cls]; split <;> (try split) <;> simp)) (fun a w hr => by
    have : (decide (a0 ≠ none)) = !a0.isNone := by cases a0 <;> simp
    simp [execOp, hr.ev hx, hr.ev hy, eqGuard, binOp, run_eq_nil, this]) hd k
theorem j_eqptrnil {t t2 e : TypeId} {n1 : Nat} {x y : Operand} {a0 : Option Addr} [hs : TyC P t (.pointer e) n1] (hx : ev fm x = some (.pointer a0)) (hy : ev fm y = some (.pointer none)) (hd : Nat.blt d n = true)
    (k : J n ((d, .bool (decide (a0 = none))) :: fm) L (runS P EE ops K rest)) : J n fm L (runS P EE ops K (⟨some d, .binOp .eql t x y t2, ty, pos, after, none⟩ :: rest)) :=
  j_pure (by first | (simp [cls]; done) | (simp only [cls]; split <;> simp; done) | (simp only [cls]; split <;> (try split) <;> simp)) (fun a w hr => by
    have : (decide (a0 = none)) = a0.isNone := by cases a0 <;> simp
    simp [execOp, hr.ev hx, hr.ev hy, eqGuard, binOp, run_eq_ptrnil, this]) hd k
theorem j_neptrnil {t t2 e : TypeId} {n1 : Nat} {x y : Operand} {a0 : Option Addr} [hs : TyC P t (.pointer e) n1] (hx : ev fm x = some (.pointer a0)) (hy : ev fm y = some (.pointer none)) (hd : Nat.blt d n = true)
    (k : J n ((d, .bool (decide (a0 ≠ none))) :: fm) L (runS P EE ops K rest)) : J n fm L (runS P EE ops K (⟨some d, .binOp .neq t x y t2, ty, pos, after, none⟩ :: rest)) :=
  j_pure (by first | (simp [cls]; done) | (simp only [cls]; split <;> simp; done) | (simp only [cls]; split <;> (try split) <;> simp)) (fun a w hr => by
    have : (decide (a0 ≠ none)) = !a0.isNone := by cases a0 <;> simp
    simp [execOp, hr.ev hx, hr.ev hy, eqGuard, binOp, run_eq_ptrnil, this]) hd k

theorem j_extract {x : Operand} {l : List Value} {i : Nat} {v : Value} (hx : ev fm x = some (.tuple l.toArray)) (hi : l[i]? = some v) (hd : Nat.blt d n = true)
    (k : J n ((d, v) :: fm) L (runS P EE ops K rest)) : J n fm L (runS P EE ops K (⟨some d, .extract x i, ty, pos, after, none⟩ :: rest)) :=
  j_pure (by first | (simp [cls]; done) | (simp only [cls]; split <;> simp; done) | (simp only [cls]; split <;> (try split) <;> simp)) (fun a w hr => by simp [execOp, hr.ev hx, Instr.extract, hi]) hd k

theorem j_conv {s t : TypeId} {ks kt : IntKind} {n1 n2 : Nat} {x : Operand} {a0 : Int} [hs : TyC P s (.int ks) n1] [ht : TyC P t (.int kt) n2] (hx : ev fm x = some (.int ks a0)) (hd : Nat.blt d n = true)
    (k : J n ((d, .int kt (kt.wrap a0)) :: fm) L (runS P EE ops K rest)) : J n fm L (runS P EE ops K (⟨some d, .convert s t x, ty, pos, after, none⟩ :: rest)) :=
  j_pure (by first | (simp [cls]; done) | (simp only [cls]; split <;> simp; done) | (simp only [cls]; split <;> (try split) <;> simp)) (fun a w hr => by simp [execOp, hr.ev hx, convert, run_underlying hs.und, run_underlying ht.und, Conv.intToInt]) hd k

theorem j_len {t : TypeId} {e : TypeId} {n1 : Nat} {x : Operand} {a0 : Option Addr} {len cap : Nat} [hs : TyC P t (.slice e) n1] (hx : ev fm x = some (.slice a0 len cap)) (hd : Nat.blt d n = true)
    (k : J n ((d, .int .i64 (len : Int)) :: fm) L (runS P EE ops K rest)) : J n fm L (runS P EE ops K (⟨some d, .call ⟨.builtin .len, #[x], #[t]⟩, ty, pos, after, none⟩ :: rest)) :=
  j_pure (by first | (simp [cls]; done) | (simp only [cls]; split <;> simp; done) | (simp only [cls]; split <;> (try split) <;> simp)) (fun a w hr => by simp [execOp, resolve, invoke, builtin, hr.ev hx, Builtin.len_, run_underlying hs.und, goInt]) hd k
theorem j_cap {t : TypeId} {e : TypeId} {n1 : Nat} {x : Operand} {a0 : Option Addr} {len cap : Nat} [hs : TyC P t (.slice e) n1] (hx : ev fm x = some (.slice a0 len cap)) (hd : Nat.blt d n = true)
    (k : J n ((d, .int .i64 (cap : Int)) :: fm) L (runS P EE ops K rest)) : J n fm L (runS P EE ops K (⟨some d, .call ⟨.builtin .cap, #[x], #[t]⟩, ty, pos, after, none⟩ :: rest)) :=
  j_pure (by first | (simp [cls]; done) | (simp only [cls]; split <;> simp; done) | (simp only [cls]; split <;> (try split) <;> simp)) (fun a w hr => by simp [execOp, resolve, invoke, builtin, hr.ev hx, Builtin.cap_, run_underlying hs.und, goInt]) hd k
theorem j_len_str {t : TypeId} {n1 : Nat} {x : Operand} {s : ByteArray} [hs : TyC P t .string n1] (hx : ev fm x = some (.string s)) (hd : Nat.blt d n = true)
    (k : J n ((d, .int .i64 (s.size : Int)) :: fm) L (runS P EE ops K rest)) : J n fm L (runS P EE ops K (⟨some d, .call ⟨.builtin .len, #[x], #[t]⟩, ty, pos, after, none⟩ :: rest)) :=
  j_pure (by first | (simp [cls]; done) | (simp only [cls]; split <;> simp; done) | (simp only [cls]; split <;> (try split) <;> simp)) (fun a w hr => by simp [execOp, resolve, invoke, builtin, hr.ev hx, Builtin.len_, run_underlying hs.und, goInt]) hd k
theorem j_min {t t2 : TypeId} {x y : Operand} {ki : IntKind} {a0 b0 : Int} (hx : ev fm x = some (.int ki a0)) (hy : ev fm y = some (.int ki b0)) (hd : Nat.blt d n = true)
    (k : J n ((d, .int ki (if b0 < a0 then b0 else a0)) :: fm) L (runS P EE ops K rest)) : J n fm L (runS P EE ops K (⟨some d, .call ⟨.builtin .min, #[x, y], #[t, t2]⟩, ty, pos, after, none⟩ :: rest)) :=
  j_pure (by first | (simp [cls]; done) | (simp only [cls]; split <;> simp; done) | (simp only [cls]; split <;> (try split) <;> simp)) (fun a w hr => by simp [execOp, resolve, invoke, builtin, hr.ev hx, hr.ev hy, Builtin.min_, Builtin.min2]) hd k
theorem j_max {t t2 : TypeId} {x y : Operand} {ki : IntKind} {a0 b0 : Int} (hx : ev fm x = some (.int ki a0)) (hy : ev fm y = some (.int ki b0)) (hd : Nat.blt d n = true)
    (k : J n ((d, .int ki (if b0 > a0 then b0 else a0)) :: fm) L (runS P EE ops K rest)) : J n fm L (runS P EE ops K (⟨some d, .call ⟨.builtin .max, #[x, y], #[t, t2]⟩, ty, pos, after, none⟩ :: rest)) :=
  j_pure (by first | (simp [cls]; done) | (simp only [cls]; split <;> simp; done) | (simp only [cls]; split <;> (try split) <;> simp)) (fun a w hr => by simp [execOp, resolve, invoke, builtin, hr.ev hx, hr.ev hy, Builtin.max_, Builtin.max2]) hd k

/-- the place of a slice's element -/
theorem j_indexAddr {t e : TypeId} {n1 sz : Nat} {d1 : TypeDesc} {x y : Operand} {b o len cap : Nat} {ki : IntKind} {i : Int} [hs : TyC P t (.slice e) n1] [he : TyC P e d1 sz]
    (hx : ev fm x = some (.slice (some ⟨b, o, none⟩) len cap)) (hy : ev fm y = some (.int ki i)) (j : Nat) (hj : i = (j : Int)) (hlt : j < len) (hd : Nat.blt d n = true)
    (k : J n ((d, .pointer (some ⟨b, o + j * sz, none⟩)) :: fm) L (runS P EE ops K rest)) : J n fm L (runS P EE ops K (⟨some d, .indexAddr t x y, ty, pos, after, none⟩ :: rest)) :=
  j_pure (by first | (simp [cls]; done) | (simp only [cls]; split <;> simp; done) | (simp only [cls]; split <;> (try split) <;> simp)) (fun a w hr => by
    subst hj
    have hsz := he.size
    cases hinf : P.info? e with
    | none => simp [hinf] at hsz
    | some inf =>
      simp [hinf] at hsz
      simp [execOp, hr.ev hx, hr.ev hy, Instr.indexAt, run_underlying hs.und, asIntOf, hlt, sizeOf, typeInfo, hinf, hsz, add_lit]) hd k

/-- the place of an array's element -/
theorem j_indexArr {t e : TypeId} {n1 sz len : Nat} {d1 : TypeDesc} {x y : Operand} {b o : Nat} {ki : IntKind} {i : Int} [hs : TyC P t (.array len e) n1] [he : TyC P e d1 sz]
    (hx : ev fm x = some (.pointer (some ⟨b, o, none⟩))) (hy : ev fm y = some (.int ki i)) (j : Nat) (hj : i = (j : Int)) (hlt : j < len) (hd : Nat.blt d n = true)
    (k : J n ((d, .pointer (some ⟨b, o + j * sz, none⟩)) :: fm) L (runS P EE ops K rest)) : J n fm L (runS P EE ops K (⟨some d, .indexAddr t x y, ty, pos, after, none⟩ :: rest)) :=
  j_pure (by first | (simp [cls]; done) | (simp only [cls]; split <;> simp; done) | (simp only [cls]; split <;> (try split) <;> simp)) (fun a w hr => by
    subst hj
    have hsz := he.size
    cases hinf : P.info? e with
    | none => simp [hinf] at hsz
    | some inf =>
      simp [hinf] at hsz
      simp [execOp, hr.ev hx, hr.ev hy, Instr.indexAt, run_underlying hs.und, asIntOf, Instr.sureAddr, hlt, sizeOf, typeInfo, hinf, hsz, add_lit]) hd k

theorem j_eqbool {t t2 : TypeId} {n1 : Nat} {x y : Operand} {p q : Bool} [hs : TyC P t .bool n1] (hx : ev fm x = some (.bool p)) (hy : ev fm y = some (.bool q)) (hd : Nat.blt d n = true)
    (k : J n ((d, .bool (decide (p = q))) :: fm) L (runS P EE ops K rest)) : J n fm L (runS P EE ops K (⟨some d, .binOp .eql t x y t2, ty, pos, after, none⟩ :: rest)) :=
  j_pure (by first | (simp [cls]; done) | (simp only [cls]; split <;> simp; done) | (simp only [cls]; split <;> (try split) <;> simp)) (fun a w hr => by
    have h1 : ∀ q0, (Op.equalIn (q0 + 1) t (.bool p) (.bool q)).run P w = .ok (p == q) w := fun q0 => by
      simp only [Op.equalIn, Sem.run_bind, run_underlying hs.und, Result.andThen_ok]; rfl
    have h2 : (Op.equal t (.bool p) (.bool q)).run P w = .ok (p == q) w := h1 9999
    have h3 : (decide (p = q)) = (p == q) := by cases p <;> cases q <;> rfl
    simp [execOp, hr.ev hx, hr.ev hy, eqGuard, binOp, h2, h3]) hd k
theorem j_nebool {t t2 : TypeId} {n1 : Nat} {x y : Operand} {p q : Bool} [hs : TyC P t .bool n1] (hx : ev fm x = some (.bool p)) (hy : ev fm y = some (.bool q)) (hd : Nat.blt d n = true)
    (k : J n ((d, .bool (decide (p ≠ q))) :: fm) L (runS P EE ops K rest)) : J n fm L (runS P EE ops K (⟨some d, .binOp .neq t x y t2, ty, pos, after, none⟩ :: rest)) :=
  j_pure (by first | (simp [cls]; done) | (simp only [cls]; split <;> simp; done) | (simp only [cls]; split <;> (try split) <;> simp)) (fun a w hr => by
    have h1 : ∀ q0, (Op.equalIn (q0 + 1) t (.bool p) (.bool q)).run P w = .ok (p == q) w := fun q0 => by
      simp only [Op.equalIn, Sem.run_bind, run_underlying hs.und, Result.andThen_ok]; rfl
    have h2 : (Op.equal t (.bool p) (.bool q)).run P w = .ok (p == q) w := h1 9999
    have h3 : (decide (p ≠ q)) = !(p == q) := by cases p <;> cases q <;> rfl
    simp [execOp, hr.ev hx, hr.ev hy, eqGuard, binOp, h2, h3]) hd k
theorem j_eqstr {t t2 : TypeId} {n1 : Nat} {x y : Operand} {p q : ByteArray} [hs : TyC P t .string n1] (hx : ev fm x = some (.string p)) (hy : ev fm y = some (.string q)) (hd : Nat.blt d n = true)
    (k : J n ((d, .bool (decide (p = q))) :: fm) L (runS P EE ops K rest)) : J n fm L (runS P EE ops K (⟨some d, .binOp .eql t x y t2, ty, pos, after, none⟩ :: rest)) :=
  j_pure (by first | (simp [cls]; done) | (simp only [cls]; split <;> simp; done) | (simp only [cls]; split <;> (try split) <;> simp)) (fun a w hr => by
    have h3 : (decide (p = q)) = (p.toList == q.toList) := by
      by_cases h : p = q
      · subst h; simp
      · have : p.toList ≠ q.toList := fun e => h (byteArray_ext e)
        simp [h, this]
    simp [execOp, hr.ev hx, hr.ev hy, eqGuard, binOp, Op.stringOp, h3]) hd k
theorem j_nestr {t t2 : TypeId} {n1 : Nat} {x y : Operand} {p q : ByteArray} [hs : TyC P t .string n1] (hx : ev fm x = some (.string p)) (hy : ev fm y = some (.string q)) (hd : Nat.blt d n = true)
    (k : J n ((d, .bool (decide (p ≠ q))) :: fm) L (runS P EE ops K rest)) : J n fm L (runS P EE ops K (⟨some d, .binOp .neq t x y t2, ty, pos, after, none⟩ :: rest)) :=
  j_pure (by first | (simp [cls]; done) | (simp only [cls]; split <;> simp; done) | (simp only [cls]; split <;> (try split) <;> simp)) (fun a w hr => by
    have h3 : (decide (p ≠ q)) = !(p.toList == q.toList) := by
      by_cases h : p = q
      · subst h; simp
      · have : p.toList ≠ q.toList := fun e => h (byteArray_ext e)
        simp [h, this]
    simp [execOp, hr.ev hx, hr.ev hy, eqGuard, binOp, Op.stringOp, h3]) hd k
theorem j_quo {t t2 : TypeId} {x y : Operand} {ki : IntKind} {a0 b0 : Int} (hx : ev fm x = some (.int ki a0)) (hy : ev fm y = some (.int ki b0)) (h : b0 ≠ 0) (hd : Nat.blt d n = true)
    (k : J n ((d, .int ki (ki.wrap (a0.tdiv b0))) :: fm) L (runS P EE ops K rest)) : J n fm L (runS P EE ops K (⟨some d, .binOp .quo t x y t2, ty, pos, after, none⟩ :: rest)) :=
  j_pure (by first | (simp [cls]; done) | (simp only [cls]; split <;> simp; done) | (simp only [cls]; split <;> (try split) <;> simp)) (fun a w hr => by
    simp only [execOp, hr.ev hx, hr.ev hy, Sem.run_bind, run_eqGuard_int, Result.andThen_ok, binOp, Op.intDiv]
    simp [h]) hd k
theorem j_rem {t t2 : TypeId} {x y : Operand} {ki : IntKind} {a0 b0 : Int} (hx : ev fm x = some (.int ki a0)) (hy : ev fm y = some (.int ki b0)) (h : b0 ≠ 0) (hd : Nat.blt d n = true)
    (k : J n ((d, .int ki (a0.tmod b0)) :: fm) L (runS P EE ops K rest)) : J n fm L (runS P EE ops K (⟨some d, .binOp .rem t x y t2, ty, pos, after, none⟩ :: rest)) :=
  j_pure (by first | (simp [cls]; done) | (simp only [cls]; split <;> simp; done) | (simp only [cls]; split <;> (try split) <;> simp)) (fun a w hr => by
    simp only [execOp, hr.ev hx, hr.ev hy, Sem.run_bind, run_eqGuard_int, Result.andThen_ok, binOp, Op.intDiv]
    simp [h]) hd k

theorem j_makeFunc {f : FuncId} {cap : Array Operand} {vs : List Value} (hc : cap.toList.mapM (ev fm) = some vs) (hd : Nat.blt d n = true)
    (k : J n ((d, .func (.func f) #[] vs.toArray) :: fm) L (runS P EE ops K rest)) : J n fm L (runS P EE ops K (⟨some d, .makeFunc (.func f) #[] cap, ty, pos, after, none⟩ :: rest)) :=
  j_pure (by first | (simp [cls]; done) | (simp only [cls]; split <;> simp; done) | (simp only [cls]; split <;> (try split) <;> simp)) (fun a w hr => by
    have : cap.map a.eval = vs.toArray := by
      have h2 : ∀ (l : List Operand) (vs : List Value), l.mapM (ev fm) = some vs → l.map a.eval = vs := by
        intro l
        induction l with
        | nil => intro vs h; simp at h; simp [h]
        | cons x l ih =>
          intro vs h
          simp only [List.mapM_cons, Option.bind_eq_bind, Option.bind_eq_some_iff, Option.pure_def, Option.some.injEq] at h
          obtain ⟨v, hv, vs', hvs, rfl⟩ := h
          simp [hr.ev hv, ih vs' hvs]
      have h3 := h2 _ _ hc
      apply Array.toList_inj.1
      simpa using h3
    simp [execOp, Instr.makeFunc, this]) hd k

/-! ### memory -/
def aggT : TypeDesc → Bool
  | .struct _ | .array _ _ => true
  | _ => false
def CellsAt (l : List Value) (o : Nat) : List Value → Prop
  | [] => True
  | v :: r => l[o]? = some v ∧ CellsAt l (o + 1) r

theorem run_isAgg {t : TypeId} {d : TypeDesc} (h : P.underlying t = some d) (w : World) : (isAgg t).run P w = .ok (aggT d) w := by
  cases d <;> simp [isAgg, run_underlying h, aggT]

theorem CellsAt.get {l : List Value} : ∀ (vs : List Value) (o : Nat), CellsAt l o vs → ∀ j v, vs[j]? = some v → l[o + j]? = some v
  | [], _, _, j, v, h => by simp at h
  | u :: vs, o, h, 0, v, hv => by simp at hv; subst hv; exact h.1
  | u :: vs, o, h, j + 1, v, hv => by
    have := CellsAt.get vs (o + 1) h.2 j v (by simpa using hv)
    rw [show o + (j + 1) = o + 1 + j from by omega]
    exact this

/-- what is read of one cell, at a fact on the world -/
theorem j_loadw {t : TypeId} {d1 : TypeDesc} {x : Operand} {a0 : Addr} {v : Value} {n1 : Nat} [ht : TyC P t d1 n1] (ha : aggT d1 = false) (hx : ev fm x = some (.pointer (some a0)))
    (hc : ∀ w, Sat L w → w.cell? a0 = some v) (hd : Nat.blt d n = true)
    (k : J n ((d, v) :: fm) L (runS P EE ops K rest)) : J n fm L (runS P EE ops K (⟨some d, .load t x, ty, pos, after, none⟩ :: rest)) :=
  j_read ⟨by simp [cls], by simp [cls]⟩ (fun a w hr hw => by
    simp [execOp, hr.ev hx, Instr.loadAt, Instr.sureAddr, loadVar, run_isAgg ht.und, ha, hc w hw]) hd k
/-- of several -/
theorem j_loadsw {t : TypeId} {d1 : TypeDesc} {x : Operand} {b o : Nat} (vs : List Value) {n1 : Nat} [ht : TyC P t d1 n1] (ha : aggT d1 = true) (hl : vs.length = n1) (hx : ev fm x = some (.pointer (some ⟨b, o, none⟩)))
    (hc : ∀ w, Sat L w → ∀ j v, vs[j]? = some v → w.cell? ⟨b, o + j, none⟩ = some v) (hd : Nat.blt d n = true)
    (k : J n ((d, .agg vs.toArray) :: fm) L (runS P EE ops K rest)) : J n fm L (runS P EE ops K (⟨some d, .load t x, ty, pos, after, none⟩ :: rest)) :=
  j_read ⟨by simp [cls], by simp [cls]⟩ (fun a w hr hw => by
    have hsz := ht.size
    cases hinf : P.info? t with
    | none => simp [hinf] at hsz
    | some inf =>
      simp [hinf] at hsz
      have hld := run_loadCells_list (P := P) (w := w) ⟨b, o, none⟩ vs (fun j v hj => by rw [add_lit]; exact hc w hw j v hj)
      simp [execOp, hr.ev hx, Instr.loadAt, Instr.sureAddr, loadVar, run_isAgg ht.und, ha, sizeOf, typeInfo, hinf, hsz, ← hl, hld]) hd k

theorem j_load {t : TypeId} {d1 : TypeDesc} {x : Operand} {b o : Nat} {T : TypeId} {l : List Value} {v : Value} {n1 : Nat} [ht : TyC P t d1 n1] (ha : aggT d1 = false) (hx : ev fm x = some (.pointer (some ⟨b, o, none⟩)))
    (hA : At L (blk b T l)) (hc : l[o]? = some v) (hd : Nat.blt d n = true)
    (k : J n ((d, v) :: fm) L (runS P EE ops K rest)) : J n fm L (runS P EE ops K (⟨some d, .load t x, ty, pos, after, none⟩ :: rest)) :=
  j_loadw ha hx (fun w hw => by rw [hw.cell hA]; exact hc) hd k
theorem j_loads {t : TypeId} {d1 : TypeDesc} {x : Operand} {b o : Nat} {T : TypeId} {l : List Value} (vs : List Value) {n1 : Nat} [ht : TyC P t d1 n1] (ha : aggT d1 = true) (hl : vs.length = n1) (hx : ev fm x = some (.pointer (some ⟨b, o, none⟩)))
    (hA : At L (blk b T l)) (hc : CellsAt l o vs) (hd : Nat.blt d n = true)
    (k : J n ((d, .agg vs.toArray) :: fm) L (runS P EE ops K rest)) : J n fm L (runS P EE ops K (⟨some d, .load t x, ty, pos, after, none⟩ :: rest)) :=
  j_loadsw vs ha hl hx (fun w hw j v hj => by rw [hw.cell hA]; exact hc.get _ _ j v hj) hd k

/-- a list with one place turned, and with several -/
inductive LSet : List Value → Nat → Value → List Value → Prop
  | z {u v : Value} {l : List Value} : LSet (u :: l) 0 v (v :: l)
  | s {u v : Value} {i : Nat} {l l' : List Value} : LSet l i v l' → LSet (u :: l) (i + 1) v (u :: l')
theorem LSet.eq {l l' : List Value} {i : Nat} {v : Value} (h : LSet l i v l') : l' = l.set i v ∧ i < l.length := by
  induction h with
  | z => simp
  | s _ ih => simp [ih.1, ih.2]
def setAll (l : List Value) (o : Nat) : List Value → List Value
  | [] => l
  | v :: r => setAll (l.set o v) (o + 1) r
theorem setAll_length (vs : List Value) : ∀ (l : List Value) (o : Nat), (setAll l o vs).length = l.length := by
  induction vs with
  | nil => intro l o; rfl
  | cons v r ih => intro l o; simp [setAll, ih]

theorem run_store1 {w : World} {b o : Nat} {T : TypeId} {l : List Value} {v : Value} (hw : ∃ fz : Nat × Nat, w.heap[b]? = some (.cells l.toArray T fz) ∧ ∀ i, i < l.length → (decide (fz.1 ≤ i) && decide (i < fz.2)) = false)
    (hlt : o < l.length) (hv : v.oneCell' = true) : (store ⟨b, o, none⟩ v).run P w = .ok () (w.setCell ⟨b, o, none⟩ v) := by
  obtain ⟨fz, h1, h2⟩ := hw
  have hc : w.cell? ⟨b, o, none⟩ = some l[o] := by simp [World.cell?, h1, hlt]
  have hf : w.frozen? ⟨b, o, none⟩ = false := by
    have := h2 o hlt
    simp only [World.frozen?, h1]
    exact this
  simp [run_store P w _ v .plain hv, hc, hf]

theorem run_storeCells_blk {b : Nat} {T : TypeId} : ∀ (vs : List Value) {w : World} {l : List Value} {L : List HP} (o i : Nat), (∀ v ∈ vs, v.oneCell' = true) → o + i + vs.length ≤ l.length → ∀ {j : Nat}, L[j]? = some (blk b T l) → Sat L w →
    ∃ w', (storeCells ⟨b, o, none⟩ vs i).run P w = .ok () w' ∧ Sat (L.set j (blk b T (setAll l (o + i) vs))) w'
  | [], w, l, L, o, i, _, _, j, hj, hw => ⟨w, by simp [storeCells], by
      have : L.set j (blk b T l) = L := by
        obtain ⟨h1, h2⟩ := List.getElem?_eq_some_iff.1 hj
        rw [← h2]; exact List.set_getElem_self h1
      simpa [setAll, this] using hw⟩
  | v :: r, w, l, L, o, i, h1, hlen, j, hj, hw => by
    simp only [List.length_cons] at hlen
    obtain ⟨S, hS⟩ := hw.get hj
    have hs := run_store1 (P := P) (v := v) (o := o + i) hS.2 (by omega) (h1 v (List.mem_cons_self ..))
    have hjl : j < L.length := (List.getElem?_eq_some_iff.1 hj).1
    have hup : Sat (L.set j (blk b T (l.set (o + i) v))) (w.setCell ⟨b, o + i, none⟩ v) := by
      refine hw.upd hj (fun S hS => ?_) ⟨rfl, rfl, rfl⟩
      obtain ⟨h0, fz, k1, k2⟩ := hS
      refine ⟨⟨.inl h0, fz, ?_, fun j hj => k2 j (by simpa using hj)⟩, fun k hk hn => ?_⟩
      · simp [World.setCell, Array.getElem?_modify, k1]
      · have : b ≠ k := fun e => hn (e ▸ h0)
        simp [World.setCell, Array.getElem?_modify, this]
    obtain ⟨w', hr, hs'⟩ := run_storeCells_blk r (l := l.set (o + i) v) (L := L.set j (blk b T (l.set (o + i) v))) (T := T) o (i + 1) (fun u hu => h1 u (List.mem_cons_of_mem _ hu)) (by simp; omega) (j := j) (by rw [List.getElem?_set_self hjl]) hup
    refine ⟨w', ?_, ?_⟩
    · simp [storeCells, add_lit, hs, hr]
    · simpa [setAll, Nat.add_assoc] using hs'

/-- a store of one cell, at a place that is told by its number -/
theorem j_setg {t : TypeId} {d1 : TypeDesc} {x y : Operand} {b o : Nat} {T : TypeId} {l : List Value} {v : Value} {L' : List HP} {n1 : Nat} [ht : TyC P t d1 n1] (h1 : Nat.beq n1 1 = true) (hx : ev fm x = some (.pointer (some ⟨b, o, none⟩)))
    (hy : ev fm y = some v) (hv : v.oneCell' = true) (hA : Up L (blk b T l) (blk b T (l.set o v)) L') (hlt : o < l.length)
    (k : J n fm L' (runS P EE ops K rest)) : J n fm L (runS P EE ops K (⟨none, .store t x y, ty, pos, after, none⟩ :: rest)) :=
  j_store rfl (fun a w hr hw => by
    have e1 : n1 = 1 := Nat.eq_of_beq_eq_true h1
    subst e1
    obtain ⟨i, hi, hL⟩ := hA.get
    subst hL
    have hsz := ht.size
    have hcells : v.cells = #[v] := by cases v <;> first | rfl | (simp [Value.oneCell'] at hv)
    cases hinf : P.info? t with
    | none => simp [hinf] at hsz
    | some inf =>
      simp [hinf] at hsz
      obtain ⟨w', hrun, hsat⟩ := run_storeCells_blk (P := P) [v] (T := T) o 0 (by simpa using hv) (by simp; omega) hi hw
      refine ⟨w', ?_, by simpa [setAll] using hsat⟩
      simp [execOp, hr.ev hx, hr.ev hy, Instr.storeAt, Instr.sureAddr, storeVar, sizeOf, typeInfo, hinf, hsz, hcells, hrun]) k
/-- a store of one cell -/
theorem j_set {t : TypeId} {d1 : TypeDesc} {x y : Operand} {b o : Nat} {T : TypeId} {l l' : List Value} {v : Value} {L' : List HP} {n1 : Nat} [ht : TyC P t d1 n1] (h1 : Nat.beq n1 1 = true) (hx : ev fm x = some (.pointer (some ⟨b, o, none⟩)))
    (hy : ev fm y = some v) (hv : v.oneCell' = true) (hA : Up L (blk b T l) (blk b T l') L') (hs : LSet l o v l')
    (k : J n fm L' (runS P EE ops K rest)) : J n fm L (runS P EE ops K (⟨none, .store t x y, ty, pos, after, none⟩ :: rest)) :=
  j_store rfl (fun a w hr hw => by
    have e1 : n1 = 1 := Nat.eq_of_beq_eq_true h1
    subst e1
    obtain ⟨rfl, hlt⟩ := hs.eq
    obtain ⟨i, hi, hL⟩ := hA.get
    subst hL
    have hsz := ht.size
    have hcells : v.cells = #[v] := by cases v <;> first | rfl | (simp [Value.oneCell'] at hv)
    cases hinf : P.info? t with
    | none => simp [hinf] at hsz
    | some inf =>
      simp [hinf] at hsz
      obtain ⟨w', hrun, hsat⟩ := run_storeCells_blk (P := P) [v] (T := T) o 0 (by simpa using hv) (by simp; omega) hi hw
      refine ⟨w', ?_, by simpa [setAll] using hsat⟩
      simp [execOp, hr.ev hx, hr.ev hy, Instr.storeAt, Instr.sureAddr, storeVar, sizeOf, typeInfo, hinf, hsz, hcells, hrun]) k
inductive LSets : List Value → Nat → List Value → List Value → Prop
  | nil {l : List Value} {o : Nat} : LSets l o [] l
  | cons {l l' l'' vs : List Value} {o : Nat} {v : Value} : LSet l o v l' → LSets l' (o + 1) vs l'' → LSets l o (v :: vs) l''
theorem LSets.eq {l l' vs : List Value} {o : Nat} (h : LSets l o vs l') : l'.length = l.length ∧ (vs = [] ∨ o + vs.length ≤ l.length) ∧ ((vs.zipIdx o).foldl (fun (cs : Array Value) (p : Value × Nat) => cs.setIfInBounds p.2 p.1) l.toArray) = l'.toArray := by
  induction h with
  | nil => simp
  | cons h1 _ ih =>
    obtain ⟨rfl, hlt⟩ := h1.eq
    obtain ⟨i1, i2, i3⟩ := ih
    refine ⟨by simpa using i1, .inr ?_, ?_⟩
    · rcases i2 with h | h
      · subst h; simp; omega
      · simp at h ⊢; omega
    · simp only [List.zipIdx_cons, List.foldl_cons, List.setIfInBounds_toArray]
      exact i3
theorem LSets.all {l l' vs : List Value} {o : Nat} (h : LSets l o vs l') : l' = setAll l o vs := by
  induction h with
  | nil => rfl
  | cons h1 _ ih => obtain ⟨rfl, _⟩ := h1.eq; exact ih
/-- a store of several -/
theorem j_sets {t : TypeId} {d1 : TypeDesc} {x y : Operand} {b o : Nat} {T : TypeId} {l l' : List Value} {vs : List Value} {L' : List HP} {n1 : Nat} [ht : TyC P t d1 n1] (hn : vs.length = n1) (hx : ev fm x = some (.pointer (some ⟨b, o, none⟩)))
    (hy : ev fm y = some (.agg vs.toArray)) (hv : vs.all Value.oneCell' = true) (hA : Up L (blk b T l) (blk b T l') L') (hs : LSets l o vs l') (hlen : Nat.ble (o + vs.length) l.length = true) 
    (k : J n fm L' (runS P EE ops K rest)) : J n fm L (runS P EE ops K (⟨none, .store t x y, ty, pos, after, none⟩ :: rest)) :=
  j_store rfl (fun a w hr hw => by
    subst hn
    obtain rfl := hs.all
    obtain ⟨i, hi, hL⟩ := hA.get
    subst hL
    have hsz := ht.size
    cases hinf : P.info? t with
    | none => simp [hinf] at hsz
    | some inf =>
      simp [hinf] at hsz
      obtain ⟨w', hrun, hsat⟩ := run_storeCells_blk (P := P) vs (T := T) o 0 (by simpa using hv) (by simpa using Nat.le_of_ble_eq_true hlen) hi hw
      refine ⟨w', ?_, by simpa using hsat⟩
      simp [execOp, hr.ev hx, hr.ev hy, Instr.storeAt, Instr.sureAddr, storeVar, sizeOf, typeInfo, hinf, hsz, Value.cells, hrun]) k

/-- a new variable -/
theorem j_box {t : TypeId} {x : Operand} {v : Value} (hx : ev fm x = some v) (hd : Nat.blt d n = true)
    (k : ∀ b, J n ((d, .pointer (some ⟨b, 0, none⟩)) :: fm) (blk b t v.cells.toList :: L) (runS P EE ops K rest)) : J n fm L (runS P EE ops K (⟨some d, .box t x, ty, pos, after, none⟩ :: rest)) :=
  j_new (f := fun b => .pointer (some ⟨b, 0, none⟩)) rfl (fun a w hr => by simp [execOp, hr.ev hx, Instr.box, newVar, newRow]) hd k
theorem j_alloc {t : TypeId} {z : Value} {by_ : Nat} [hz : TyZ P t z by_] (hd : Nat.blt d n = true)
    (k : ∀ b, J n ((d, .pointer (some ⟨b, 0, none⟩)) :: fm) (blk b t z.cells.toList :: L) (runS P EE ops K rest)) : J n fm L (runS P EE ops K (⟨some d, .alloc t, ty, pos, after, none⟩ :: rest)) :=
  j_new (f := fun b => .pointer (some ⟨b, 0, none⟩)) rfl (fun a w hr => by
    have h0 := hz.zero
    cases hinf : P.info? t with
    | none => simp [hinf] at h0
    | some inf =>
      simp [hinf] at h0
      simp [execOp, Instr.alloc, zeroValue, typeInfo, hinf, h0, newVar, newRow]) hd k

/-- a struct's value out of its parts -/
inductive LFill (offs : List (Nat × Nat)) : List Value → List (Nat × Value) → List Value → Prop
  | nil {z : List Value} : LFill offs z [] z
  | cons {z z' cs l : List Value} {i o s : Nat} {v : Value} {r : List (Nat × Value)} : offs[i]? = some (o, s) → v.cells.toList = l → l.length = s → Nat.ble (o + s) z.length = true → LSets z o l z' → LFill offs z' r cs → LFill offs z ((i, v) :: r) cs
class Lay (P : Program) (t : TypeId) (offs : outParam (List (Nat × Nat))) : Prop where
  lay : ∃ fs : Array Field, P.underlying t = some (.struct fs) ∧ fs.toList.mapM (fun f => (P.info? f.type).map fun i => (f.offset, i.size)) = some offs
theorem LFill.eq {offs : List (Nat × Nat)} {z cs : List Value} {vs : List (Nat × Value)} (h : LFill offs z vs cs) : Instr.fill (offs.toArray[·]?) z.toArray vs = some cs.toArray := by
  induction h with
  | nil => simp [Instr.fill]
  | @cons z z' cs l i o s v r h1 h2 h3 hbd h4 _ ih =>
    obtain ⟨e1, e2, e3⟩ := h4.eq
    subst h2
    have hs : v.cells.size = s := by simpa using h3
    have hb : o + s ≤ z.length := Nat.le_of_ble_eq_true hbd
    have hg : ¬ (z.length < o + s) := by omega
    have hoff : offs.toArray[i]? = some (o, s) := by simpa using h1
    have key : ∀ (l : List Value) (q : Nat) (acc : Array Value), (l.zipIdx q).foldl (fun (cs : Array Value) (p : Value × Nat) => cs.setIfInBounds (o + p.2) p.1) acc = (l.zipIdx (o + q)).foldl (fun (cs : Array Value) (p : Value × Nat) => cs.setIfInBounds p.2 p.1) acc := by
      intro l
      induction l with
      | nil => intro q acc; rfl
      | cons x l ih => intro q acc; simp only [List.zipIdx_cons, List.foldl_cons]; rw [ih, Nat.add_assoc]
    have e4 : v.cells.zipIdx.foldl (fun (cs : Array Value) (p : Value × Nat) => cs.setIfInBounds (o + p.2) p.1) z.toArray = z'.toArray := by
      rw [← Array.foldl_toList, Array.toList_zipIdx, key]
      simpa using e3
    simp only [Instr.fill, hoff, hs, List.size_toArray, ne_eq, not_true_eq_false, decide_false, gt_iff_lt, hg, Bool.or_self, Bool.false_eq_true, if_false]
    rw [e4]
    exact ih
theorem j_build {t : TypeId} {parts : Array (Nat × Operand)} {offs : List (Nat × Nat)} {zl : List Value} {by_ : Nat} {vs : List (Nat × Value)} {cs : List Value} [hl : Lay P t offs] [hz : TyZ P t (.agg zl.toArray) by_]
    (hp : parts.toList.mapM (fun p => (ev fm p.2).map (Prod.mk p.1)) = some vs) (hb : LFill offs zl vs cs) (hd : Nat.blt d n = true)
    (k : J n ((d, .agg cs.toArray) :: fm) L (runS P EE ops K rest)) : J n fm L (runS P EE ops K (⟨some d, .build t parts, ty, pos, after, none⟩ :: rest)) :=
  j_pure (by first | (simp [cls]; done) | (simp only [cls]; split <;> simp; done) | (simp only [cls]; split <;> (try split) <;> simp)) (fun a w hr => by
    have h2 : ∀ (l : List (Nat × Operand)) (vs : List (Nat × Value)), l.mapM (fun p => (ev fm p.2).map (Prod.mk p.1)) = some vs → l.map (fun p => (p.1, a.eval p.2)) = vs := by
      intro l
      induction l with
      | nil => intro vs h; simp at h; simp [h]
      | cons x l ih =>
        intro vs h
        simp only [List.mapM_cons, Option.bind_eq_bind, Option.bind_eq_some_iff, Option.pure_def, Option.some.injEq, Option.map_eq_some_iff] at h
        obtain ⟨v, ⟨u, hu, rfl⟩, vs', hvs, rfl⟩ := h
        simp [hr.ev hu, ih vs' hvs]
    have h3 := h2 _ _ hp
    have h4 : (parts.map fun (i, x) => (i, a.eval x)).toList = vs := by rw [← h3]; simp
    obtain ⟨fs, hu, hm⟩ := hl.lay
    have hz0 := hz.zero
    have hbuilt : P.built t vs = some cs.toArray := by
      unfold Program.built
      cases hinf : P.info? t with
      | none => simp [hinf] at hz0
      | some inf =>
        simp [hinf] at hz0
        simp only [hu, hz0, hm]
        exact hb.eq
    simp [execOp, run_build (P := P) w t (parts.map fun (i, x) => (i, a.eval x)) cs.toArray (by rw [h4]; exact hbuilt)]) hd k

/-! ### calls -/
/-- what a function does: from Lp, beside whatever else there is, to a result and assertions that R relates -/
def Tr (P : Program) (f : FuncId) (args : List Value) (Lp : List HP) (R : Value → List HP → Prop) : Prop :=
  ∀ (F : List HP) (w : World), Sat (Lp ++ F) w → Calls P f args.toArray w (fun e w' => ∃ v M, e = .returned v ∧ R v M ∧ Sat (M ++ F) w')

theorem Tr.mono {f : FuncId} {args : List Value} {Lp : List HP} {R R' : Value → List HP → Prop} (h : Tr P f args Lp R) (hr : ∀ v M, R v M → R' v M) : Tr P f args Lp R' :=
  fun F w hw => (h F w hw).mono fun e w' ⟨v, M, h1, h2, h3⟩ => ⟨v, M, h1, hr v M h2, h3⟩

def fmArgs : List Value → Nat → Fm
  | [], _ => []
  | v :: r, i => (i, v) :: fmArgs r (i + 1)
theorem look_fmArgs : ∀ (args : List Value) (k i : Nat) (v : Value), look (fmArgs args k) i = some v → k ≤ i ∧ args[i - k]? = some v
  | [], k, i, v, h => by simp [fmArgs, look] at h
  | u :: r, k, i, v, h => by
    rw [fmArgs, look_cons] at h
    split at h
    · rename_i e; subst e; obtain rfl := Option.some.inj h; simp
    · obtain ⟨h1, h2⟩ := look_fmArgs r (k + 1) i v h
      refine ⟨by omega, ?_⟩
      rw [show i - k = i - (k + 1) + 1 from by omega]
      simpa using h2

def postF (R : Value → List HP → Prop) (F : List HP) : Ending → World → Prop := fun e w' => ∃ v M, e = .returned v ∧ R v M ∧ Sat (M ++ F) w'

theorem tr_enter {f : FuncId} {fn : Func} {c : Code} {args : List Value} {Lp : List HP} {R : Value → List HP → Prop} (hf : P.funcs[f]? = some fn) (hb : fn.body = some c) (hn : fn.ntmps = n) (hsz : Nat.ble args.length n = true)
    (h : ∀ F, J n (fmArgs args 0) (Lp ++ F) (c.wp P (bodyPost P fn (postF R F)))) : Tr P f args Lp R := by
  intro F w hw
  have hle : args.length ≤ n := Nat.le_of_ble_eq_true hsz
  refine calls_of_wp hf hb (h F _ w ⟨rfl, ?_, fun i v hi => ?_⟩ hw)
  · simp [hn]; omega
  · obtain ⟨_, h2⟩ := look_fmArgs args 0 i v hi
    have hlt := (List.getElem?_eq_some_iff.1 h2).1
    simp only [Nat.sub_zero] at hlt h2
    have h3 : (args.toArray ++ Array.replicate (fn.ntmps - args.toArray.size) undef)[i]? = args[i]? := by
      rw [Array.getElem?_append]; simp [hlt]
    exact h3.trans h2

/-- what is known of a call's outcome -/
theorem j_call {f : FuncId} [hf : Fnc P f] {c : Operand} {as : Array Operand} {ats : Array TypeId} {cap : Array Value} {vs : List Value} {Lp F : List HP} {R : Value → List HP → Prop}
    (hc : ev fm c = some (.func (.func f) #[] cap)) (ha : as.toList.mapM (ev fm) = some vs) (spec : Tr P f (vs ++ cap.toList) Lp R) (hL : Pk L (Lp ++ F)) (hd : Nat.blt d n = true)
    (k : ∀ v M N, R v M → N = M ++ F → J n ((d, v) :: fm) N (runS P EE ops K rest)) : J n fm L (runS P EE ops K (⟨some d, .call ⟨.value c, as, ats⟩, ty, pos, after, none⟩ :: rest)) := by
  intro a w hr hw
  refine runS_pos rfl ?_
  show afterW P EE _ a _ _
  obtain ⟨fn, h1, h2, h3⟩ := hf.fn
  have h4 : as.map a.eval = vs.toArray := by
    have h2 : ∀ (l : List Operand) (vs : List Value), l.mapM (ev fm) = some vs → l.map a.eval = vs := by
      intro l
      induction l with
      | nil => intro vs h; simp at h; simp [h]
      | cons x l ih =>
        intro vs h
        simp only [List.mapM_cons, Option.bind_eq_bind, Option.bind_eq_some_iff, Option.pure_def, Option.some.injEq] at h
        obtain ⟨v, hv, vs', hvs, rfl⟩ := h
        simp [hr.ev hv, ih vs' hvs]
    have h3 := h2 _ _ ha
    apply Array.toList_inj.1
    simpa using h3
  have hb2 : fn.body ≠ none := by intro e; rw [e] at h2; simp at h2
  have hrun : (execOp a.eval ⟨some d, .call ⟨.value c, as, ats⟩, ty, pos, after, none⟩).run P w = .ok (.enter f (vs ++ cap.toList).toArray) w := by
    have h3' : fn.name ≠ "runtime.NumGoroutine" := by simpa using h3
    have e1 : vs.toArray ++ cap = (vs ++ cap.toList).toArray := by apply Array.toList_inj.1; simp
    simp [execOp, resolve, hr.ev hc, Deferred.ofValue, invoke, callFunc, h1, h2, h3', h4, hb2]
  rw [hrun]
  exact afterW_enter (Calls.mono (spec F w (hw.pk hL)) fun e w' ⟨v, M, he, hR, hs⟩ => ⟨v, he, k v M _ hR rfl _ w' (hr.put hd v) hs⟩)

/-! ### returns -/
variable {fn : Func} {R : Value → List HP → Prop} {F : List HP}
theorem j_bodyPost {v : Value} {M : List HP} (hres : ∀ a w, Rep n fm a → Sat L w → (results fn a.tmps).run P w = .ok v w) (hL : Pk L (M ++ F)) (hR : R v M) : J n fm L (bodyPost P fn (postF R F) .ret) :=
  fun a w hr hw => ⟨hr.defers, v, hres a w hr hw, v, M, rfl, hR, hw.pk hL⟩
theorem j_ret1 {t : Tmp} {v : Value} {M : List HP} (ht : fn.results = #[.tmp t]) (hv : look fm t = some v) (hL : Pk L (M ++ F)) (hR : R v M) : J n fm L (bodyPost P fn (postF R F) .ret) :=
  j_bodyPost (fun a w hr hw => by simp [results, ht, hr.slot t v hv]) hL hR
theorem j_ret0 {M : List HP} (ht : fn.results = #[]) (hL : Pk L (M ++ F)) (hR : R (.tuple #[]) M) : J n fm L (bodyPost P fn (postF R F) .ret) :=
  j_bodyPost (fun a w hr hw => by simp [results, ht]) hL hR
theorem j_ret2 {t u : Tmp} {v v' : Value} {M : List HP} (ht : fn.results = #[.tmp t, .tmp u]) (hv : look fm t = some v) (hv' : look fm u = some v') (hL : Pk L (M ++ F)) (hR : R (.tuple #[v, v']) M) : J n fm L (bodyPost P fn (postF R F) .ret) :=
  j_bodyPost (fun a w hr hw => by simp [results, ht, hr.slot t v hv, hr.slot u v' hv']) hL hR
theorem j_ret3 {t u s : Tmp} {v v' v'' : Value} {M : List HP} (ht : fn.results = #[.tmp t, .tmp u, .tmp s]) (hv : look fm t = some v) (hv' : look fm u = some v') (hv'' : look fm s = some v'') (hL : Pk L (M ++ F)) (hR : R (.tuple #[v, v', v'']) M) : J n fm L (bodyPost P fn (postF R F) .ret) :=
  j_bodyPost (fun a w hr hw => by simp [results, ht, hr.slot t v hv, hr.slot u v' hv', hr.slot s v'' hv'']) hL hR
theorem run_loadVar_blk {t : TypeId} {d1 : TypeDesc} {n1 : Nat} [ht : TyC P t d1 n1] (ha : aggT d1 = true) {w : World} (hw : Sat L w) {b o : Nat} {T : TypeId} {l vs : List Value} (hA : At L (blk b T l)) (hl : vs.length = n1) (hc : CellsAt l o vs) :
    (loadVar t ⟨b, o, none⟩).run P w = .ok (.agg vs.toArray) w := by
  have hsz := ht.size
  cases hinf : P.info? t with
  | none => simp [hinf] at hsz
  | some inf =>
    simp [hinf] at hsz
    have hld := run_loadCells_list (P := P) (w := w) ⟨b, o, none⟩ vs (fun j v hj => by rw [add_lit, hw.cell hA]; exact hc.get _ _ j v hj)
    simp [loadVar, run_isAgg ht.und, ha, sizeOf, typeInfo, hinf, hsz, ← hl, hld]
theorem j_retc {c : Tmp} {t : TypeId} {d1 : TypeDesc} {n1 : Nat} [ty : TyC P t d1 n1] {b : Nat} {T : TypeId} {l : List Value} (vs : List Value) {M : List HP} (ht : fn.results = #[.cell c t]) (ha : aggT d1 = true) (hc : look fm c = some (.pointer (some ⟨b, 0, none⟩))) (hA : At L (blk b T l)) (hl : vs.length = n1)
    (hcs : CellsAt l 0 vs) (hL : Pk L (M ++ F)) (hR : R (.agg vs.toArray) M) : J n fm L (bodyPost P fn (postF R F) .ret) :=
  j_bodyPost (fun a w hr hw => by simp [results, ht, hr.slot c _ hc, asAddr, run_loadVar_blk ha hw hA hl hcs]) hL hR
theorem j_retc2 {c u : Tmp} {t : TypeId} {d1 : TypeDesc} {n1 : Nat} [ty : TyC P t d1 n1] {b : Nat} {T : TypeId} {l : List Value} (vs : List Value) {v' : Value} {M : List HP} (ht : fn.results = #[.cell c t, .tmp u]) (ha : aggT d1 = true) (hc : look fm c = some (.pointer (some ⟨b, 0, none⟩))) (hA : At L (blk b T l)) (hl : vs.length = n1)
    (hcs : CellsAt l 0 vs) (hv' : look fm u = some v') (hL : Pk L (M ++ F)) (hR : R (.tuple #[.agg vs.toArray, v']) M) : J n fm L (bodyPost P fn (postF R F) .ret) :=
  j_bodyPost (fun a w hr hw => by simp [results, ht, hr.slot c _ hc, hr.slot u v' hv', asAddr, run_loadVar_blk ha hw hA hl hcs]) hL hR
theorem j_retn (h : J n fm L (bodyPost P fn (postF R F) .ret)) : J n fm L (bodyPost P fn (postF R F) .normal) := h

/-! ### loops -/
theorem j_loop {X : Type} (fx : X → Fm) (Lx : X → List HP) (μ : X → Nat) (x0 : X) {body : Code} {Q : Exit → Act → World → Prop} (hf : Sub (fx x0) fm) (hL : Pk L (Lx x0))
    (round : ∀ x, J n (fx x) (Lx x) (body.wp P (Exit.then (fun a w => ∃ x', μ x' < μ x ∧ Rep n (fx x') a ∧ Sat (Lx x') w) Q))) : J n fm L ((Code.loop body).wp P Q) := by
  classical
  intro a w hr hw
  let I : Act → World → Prop := fun a w => ∃ x, Rep n (fx x) a ∧ Sat (Lx x) w
  have least : ∀ a w, I a w → ∃ m, (∃ x, μ x = m ∧ Rep n (fx x) a ∧ Sat (Lx x) w) ∧ ∀ x, Rep n (fx x) a → Sat (Lx x) w → m ≤ μ x := by
    intro a w ⟨x, h1, h2⟩
    have : ∀ m x, μ x = m → Rep n (fx x) a → Sat (Lx x) w → ∃ m, (∃ x, μ x = m ∧ Rep n (fx x) a ∧ Sat (Lx x) w) ∧ ∀ x, Rep n (fx x) a → Sat (Lx x) w → m ≤ μ x := by
      intro m
      induction m using Nat.strongRecOn with
      | _ m ih =>
        intro x hm h1 h2
        by_cases hx : ∃ y, μ y < m ∧ Rep n (fx y) a ∧ Sat (Lx y) w
        · obtain ⟨y, hy, h3, h4⟩ := hx
          exact ih (μ y) hy y rfl h3 h4
        · exact ⟨m, ⟨x, hm, h1, h2⟩, fun y h3 h4 => Nat.le_of_not_lt fun hlt => hx ⟨y, hlt, h3, h4⟩⟩
    exact this _ x rfl h1 h2
  let ν : Act → World → Nat := fun a w => if h : I a w then (least a w h).choose else 0
  refine wp_loop I ν ⟨x0, hr.sub hf, hw.pk hL⟩ (fun a w hI => ?_)
  have hν : ν a w = (least a w hI).choose := by show (if h : I a w then _ else _) = _; rw [dif_pos hI]
  obtain ⟨⟨x, hx, h1, h2⟩, _⟩ := (least a w hI).choose_spec
  refine wp_mono (round x a w h1 h2) fun e a' w' h => ?_
  cases e with
  | normal =>
    obtain ⟨x', hlt, h3, h4⟩ := h
    have hI' : I a' w' := ⟨x', h3, h4⟩
    refine ⟨hI', ?_⟩
    have hν' : ν a' w' = (least a' w' hI').choose := by show (if h : I a' w' then _ else _) = _; rw [dif_pos hI']
    rw [hν, hν', ← hx]
    exact Nat.lt_of_le_of_lt ((least a' w' hI').choose_spec.2 x' h3 h4) hlt
  | _ => exact h
theorem j_round {X : Type} {fx : X → Fm} {Lx : X → List HP} {μ : X → Nat} {m : Nat} (x' : X) (hlt : μ x' < m) (hf : Sub (fx x') fm) (hL : Pk L (Lx x')) : J n fm L (fun a w => ∃ x', μ x' < m ∧ Rep n (fx x') a ∧ Sat (Lx x') w) :=
  fun a w hr hw => ⟨x', hlt, hr.sub hf, hw.pk hL⟩

end
end Go.Proofs.Ytnmfpgfgjjmfhaa
