/- Items, read. -/
import Derived.Test.YtnmfpgfgjjmfhaaWi7
import Derived.Test.YtnmfpgfgjjmfhaaSj
set_option linter.unusedVariables false
set_option linter.unusedSimpArgs false
namespace Go.Proofs.Ytnmfpgfgjjmfhaa
open Go

/-! ### items that are owned -/
mutual
def OwnI (w : World) (S : Nat → Prop) : IA → Prop
  | .num .. => True
  | .txt .. => True
  | .lst a c l => Sl 64 a c l w S ∧ OwnIL w S l
def OwnIL (w : World) (S : Nat → Prop) : List IA → Prop
  | [] => True
  | t :: l => OwnI w S t ∧ OwnIL w S l
end
mutual
theorem ownI_loc {w w' : World} {S S' : Nat → Prop} (k : ∀ b, b < w.heap.size → S b → S' b ∧ w'.heap[b]? = w.heap[b]?) (e : Kept0 w w') : ∀ t, OwnI w S t → OwnI w' S' t
  | .num .., _ => by simp only [OwnI]
  | .txt .., _ => by simp only [OwnI]
  | .lst a c l, h => by
    simp only [OwnI] at h ⊢
    exact ⟨Loc.loc h.1 k e, ownIL_loc k e l h.2⟩
theorem ownIL_loc {w w' : World} {S S' : Nat → Prop} (k : ∀ b, b < w.heap.size → S b → S' b ∧ w'.heap[b]? = w.heap[b]?) (e : Kept0 w w') : ∀ l, OwnIL w S l → OwnIL w' S' l
  | [], _ => by simp only [OwnIL]
  | t :: l, h => by
    simp only [OwnIL] at h ⊢
    exact ⟨ownI_loc k e t h.1, ownIL_loc k e l h.2⟩
end
def ItH (t : IA) : HP := fun w S => OwnI w S t
def ItHL (l : List IA) : HP := fun w S => OwnIL w S l
instance (t : IA) : Loc (ItH t) := ⟨fun h k e => ownI_loc k e t h⟩
instance (l : List IA) : Loc (ItHL l) := ⟨fun h k e => ownIL_loc k e l h⟩
theorem ownIL_snoc {w : World} {S : Nat → Prop} : ∀ (l : List IA) (t : IA), OwnIL w S l → OwnI w S t → OwnIL w S (l ++ [t])
  | [], t, _, h2 => by simp only [List.nil_append, OwnIL]; exact ⟨h2, trivial⟩
  | x :: l, t, h, h2 => by
    simp only [List.cons_append, OwnIL] at h ⊢
    exact ⟨h.1, ownIL_snoc l t h.2 h2⟩
mutual
theorem ownI_ok {w : World} {S : Nat → Prop} : ∀ t, OwnI w S t → OkI w t
  | .num .., _ => by simp only [OkI]
  | .txt .., _ => by simp only [OkI]
  | .lst a c l, h => by
    simp only [OwnI, OkI] at h ⊢
    exact ⟨SlO.read h.1, ownIL_ok l h.2⟩
theorem ownIL_ok {w : World} {S : Nat → Prop} : ∀ l, OwnIL w S l → OkIL w l
  | [], _ => by simp only [OkIL]
  | t :: l, h => by
    simp only [OwnIL, OkIL] at h ⊢
    exact ⟨ownI_ok t h.1, ownIL_ok l h.2⟩
end
theorem ownI_lens {w : World} {S : Nat → Prop} {a : Option Addr} {c : Nat} {l : List IA} (h : OwnI w S (.lst a c l)) : l.length ≤ c ∧ c ≤ maxLen := by
  simp only [OwnI] at h
  have := SlO.lens h.1
  simpa using this
theorem sees_itlen {M : List HP} {a : Option Addr} {c : Nat} {l : List IA} (h : At M (ItH (.lst a c l))) : Sees M (fun w => l.length ≤ c ∧ c ≤ maxLen) := Sees.of_at h fun w S hS => ownI_lens hS
theorem sees_it {M : List HP} {t : IA} (h : At M (ItH t)) : Sees M (fun w => OkI w t) := Sees.of_at h fun w S hS => ownI_ok t hS
theorem j_itL0 {n : Nat} {fm : Fm} {L : List HP} {X : Go.Act → World → Prop} (h : J n fm (ItHL [] :: L) X) : J n fm L X :=
  fun aa w hr hw => h aa w hr (hw.new (A' := ItHL []) (show OwnIL w _ [] by simp only [OwnIL]) (fun _ _ => rfl) (Kept0.refl w))
theorem j_it0 {n : Nat} {fm : Fm} {L : List HP} {X : Go.Act → World → Prop} {t : IA} (ht : ∀ w S, OwnI w S t) (h : J n fm (ItH t :: L) X) : J n fm L X :=
  fun aa w hr hw => h aa w hr (hw.new (A' := ItH t) (ht _ _) (fun _ _ => rfl) (Kept0.refl w))
theorem j_itSnoc {n : Nat} {fm : Fm} {L : List HP} {X : Go.Act → World → Prop} {l : List IA} {t : IA} (h : J n fm (ItHL (l ++ [t]) :: L) X) : J n fm (ItH t :: ItHL l :: L) X :=
  j_unstar (j_imp (B := ItHL (l ++ [t])) (fun w S hS => ownIL_snoc l t (star_mono hS).2 (star_mono hS).1) h)
theorem j_itLst {n : Nat} {fm : Fm} {L : List HP} {X : Go.Act → World → Prop} {l : List IA} {a : Option Addr} {c : Nat} (h : J n fm (ItH (.lst a c l) :: L) X) : J n fm (Sl 64 a c l :: ItHL l :: L) X :=
  j_unstar (j_imp (B := ItH (.lst a c l)) (fun w S hS => by
    show OwnI w S (.lst a c l)
    simp only [OwnI]
    exact ⟨(star_mono hS).1, (star_mono hS).2⟩) h)
theorem plIL_app : ∀ (l m : List IA), plIL (l ++ m) = plIL l ++ plIL m
  | [], _ => rfl
  | t :: l, m => by simp only [List.cons_append, plIL, plIL_app l m]
theorem plIL_len : ∀ (l : List IA), (plIL l).length = l.length
  | [] => rfl
  | t :: l => by simp only [plIL, List.length_cons, plIL_len l]

/-! ### the plain law of reading -/
def unzig (n : Nat) : Int := if n % 2 = 0 then ((n / 2 : Nat) : Int) else -((n / 2 : Nat) : Int) - 1
def itemsP (f : Nat → List UInt8 → Option (Va × Nat × List UInt8)) : Nat → Nat → List UInt8 → Option (List Va × Nat × List UInt8)
  | 0, left, ls => some ([], left, ls)
  | n + 1, left, ls => match f left ls with
    | none => none
    | some (v, left', ls') => match itemsP f n left' ls' with
      | none => none
      | some (vs, l, r) => some (v :: vs, l, r)
def itemP : Nat → Nat → List UInt8 → Option (Va × Nat × List UInt8)
  | 0, _, _ => none
  | _ + 1, 0, _ => none
  | _ + 1, _ + 1, [] => none
  | d + 1, left + 1, k :: ls =>
    if k = 1 then (match cntP ls with
      | some (n, r) => some (.num (unzig n), left, r)
      | none => none)
    else if k = 2 then (match sizeP 4096 ls with
      | some (n, r) => if n ≤ r.length then some (.txt ⟨(r.take n).toArray⟩, left, r.drop n) else none
      | none => none)
    else if k = 3 then (match sizeP 4096 ls with
      | some (n, r) => (match itemsP (itemP d) n left r with
        | some (vs, l, r') => some (.lst vs, l, r')
        | none => none)
      | none => none)
    else none
theorem unzig_is (n : Nat) (h : n < 18446744073709551616) : IntKind.i64.wrap ((BitVec.ofInt IntKind.i64.bits (IntKind.i64.wrap ((n : Int).fdiv (2 ^ (min (1 : Int).toNat IntKind.u64.bits)))) ^^^ BitVec.ofInt IntKind.i64.bits (IntKind.i64.wrap (-(IntKind.i64.wrap (IntKind.u64.wrap ((BitVec.ofInt IntKind.u64.bits (n : Int) &&& BitVec.ofInt IntKind.u64.bits (1 : Int)).toNat : Int)))))).toNat : Int) = unzig n := by
  have e1 : (n : Int).fdiv (2 ^ (min (1 : Int).toNat IntKind.u64.bits)) = ((n / 2 : Nat) : Int) := by
    have : (2 : Int) ^ (min (1 : Int).toNat IntKind.u64.bits) = ((2 : Nat) : Int) := by decide
    rw [this, Int.fdiv_eq_ediv_of_nonneg _ (by omega)]
    omega
  have e2 : (BitVec.ofInt IntKind.u64.bits (n : Int) &&& BitVec.ofInt IntKind.u64.bits (1 : Int)).toNat = n % 2 := by
    rw [BitVec.toNat_and]
    show (BitVec.ofInt 64 (n : Int)).toNat &&& (BitVec.ofInt 64 (1 : Int)).toNat = _
    have a1 : (BitVec.ofInt 64 (n : Int)).toNat = n := by simp only [BitVec.toNat_ofInt]; omega
    have a2 : (BitVec.ofInt 64 (1 : Int)).toNat = 1 := by decide
    rw [a1, a2, Nat.and_one_is_mod]
  rw [e1, e2, u64n (n := n % 2) (by omega), wrap64_id (x := ((n / 2 : Nat) : Int)) (by omega), wrap64_id (x := ((n % 2 : Nat) : Int)) (by omega), wrap64_id (x := -((n % 2 : Nat) : Int)) (by omega)]
  unfold unzig
  split
  · rename_i h0
    rw [h0]
    have : (BitVec.ofInt IntKind.i64.bits ((n / 2 : Nat) : Int) ^^^ BitVec.ofInt IntKind.i64.bits (-((0 : Nat) : Int))).toNat = n / 2 := by
      show (BitVec.ofInt 64 ((n / 2 : Nat) : Int) ^^^ BitVec.ofInt 64 0).toNat = n / 2
      have a2 : BitVec.ofInt 64 0 = 0#64 := by decide
      rw [a2, BitVec.xor_zero, BitVec.toNat_ofInt]
      omega
    rw [this, wrap64_id (by omega)]
  · rename_i h0
    have h1 : n % 2 = 1 := by omega
    rw [h1]
    have : (BitVec.ofInt IntKind.i64.bits ((n / 2 : Nat) : Int) ^^^ BitVec.ofInt IntKind.i64.bits (-((1 : Nat) : Int))).toNat = 18446744073709551615 - n / 2 := by
      show (BitVec.ofInt 64 ((n / 2 : Nat) : Int) ^^^ BitVec.ofInt 64 (-1)).toNat = _
      have a2 : BitVec.ofInt 64 (-1) = BitVec.allOnes 64 := by decide
      rw [a2, BitVec.xor_allOnes, BitVec.toNat_not, BitVec.toNat_ofInt]
      omega
    rw [this]
    unfold IntKind.wrap
    simp [IntKind.signed, IntKind.bits]
    omega
end Go.Proofs.Ytnmfpgfgjjmfhaa
