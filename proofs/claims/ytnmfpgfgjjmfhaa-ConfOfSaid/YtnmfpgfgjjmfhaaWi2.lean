/- Values, as package wire holds them: where they lie, and their bytes. -/
import Derived.Test.YtnmfpgfgjjmfhaaWi1
set_option linter.unusedVariables false
set_option linter.unusedSimpArgs false
set_option maxRecDepth 100000
namespace Go.Proofs.Ytnmfpgfgjjmfhaa
open Go
attribute [local irreducible] Exit.then Exit.inBlock Code.wp runS bodyPost postF J runT cutQ cutR Tr Sat blk Sl Old Star Ex Pu

/-- a value, with where its lists lie -/
inductive AT where
  | num (n : Int)
  | txt (s : ByteArray)
  | lst (a : Option Addr) (c : Nat) (l : List AT)
def valA : AT → Value
  | .num n => .iface 2 (.int .i64 n)
  | .txt s => .iface 9 (.string s)
  | .lst a c l => .iface 117 (.slice a l.length c)
mutual
def szA : AT → Nat
  | .num _ => 1
  | .txt _ => 1
  | .lst _ _ l => 1 + szL l
def szL : List AT → Nat
  | [] => 0
  | t :: l => szA t + szL l
end
theorem szL_at {l : List AT} {i : Nat} {t : AT} (h : l[i]? = some t) : szA t ≤ szL l := by
  induction l generalizing i with
  | nil => simp at h
  | cons x l ih =>
    rw [szL]
    match i with
    | 0 => simp at h; subst h; omega
    | i + 1 => rw [List.getElem?_cons_succ] at h; have := ih h; omega

def zig (n : Int) : Nat := if 0 ≤ n then (2 * n).toNat else (-2 * n - 1).toNat
mutual
def encA : AT → List UInt8
  | .num n => 1 :: cntB (zig n)
  | .txt s => 2 :: cntB s.size ++ s.data.toList
  | .lst _ _ l => 3 :: cntB l.length ++ encL l
def encL : List AT → List UInt8
  | [] => []
  | t :: l => encA t ++ encL l
end
theorem encL_snoc (l : List AT) {i : Nat} {t : AT} (h : l[i]? = some t) : encL (l.take (i + 1)) = encL (l.take i) ++ encA t := by
  induction l generalizing i with
  | nil => simp at h
  | cons x l ih =>
    match i with
    | 0 => simp at h; subst h; simp [encL]
    | i + 1 =>
      rw [List.getElem?_cons_succ] at h
      rw [List.take_succ_cons, List.take_succ_cons, encL, encL, ih h, List.append_assoc]
theorem encL_le (l : List AT) (i : Nat) : (encL (l.take i)).length ≤ (encL l).length := by
  induction l generalizing i with
  | nil => simp
  | cons x l ih =>
    match i with
    | 0 => simp [encL]
    | i + 1 => rw [List.take_succ_cons, encL, encL]; have := ih i; simp; omega

/-- a value in an array of interface values -/
structure AV where
  v : Value
  one : v.oneCell' = true
instance : Enc AV := ⟨fun x => [x.v], 1, fun _ => rfl, by decide, fun x u hu => by simp at hu; subst hu; exact x.one⟩
theorem valA_one (t : AT) : (valA t).oneCell' = true := by cases t <;> rfl
def avOf (t : AT) : AV := ⟨valA t, valA_one t⟩
mutual
/-- what a value's lists are in memory -/
def OkA (w : World) : AT → Prop
  | .num _ => True
  | .txt _ => True
  | .lst a _ l => Vw w a (l.map avOf) ∧ OkL w l
def OkL (w : World) : List AT → Prop
  | [] => True
  | t :: l => OkA w t ∧ OkL w l
end
theorem okL_at {w : World} {l : List AT} {i : Nat} {t : AT} (h : l[i]? = some t) (hl : OkL w l) : OkA w t := by
  induction l generalizing i with
  | nil => simp at h
  | cons x l ih =>
    rw [OkL] at hl
    match i with
    | 0 => simp at h; subst h; exact hl.1
    | i + 1 => rw [List.getElem?_cons_succ] at h; exact ih h hl.2

theorem zig_lt {n : Int} (h : -9223372036854775808 ≤ n ∧ n ≤ 9223372036854775807) : zig n < 18446744073709551616 := by unfold zig; split <;> omega
theorem u64_wrap (n : Int) : IntKind.u64.wrap n = n % 18446744073709551616 := by
  unfold IntKind.wrap
  simp [IntKind.signed, IntKind.bits]
theorem zig_is {n : Int} (h : -9223372036854775808 ≤ n ∧ n ≤ 9223372036854775807) :
    IntKind.u64.wrap (BitVec.ofInt IntKind.u64.bits (IntKind.u64.wrap (IntKind.u64.wrap n * 2 ^ (min (1 : Int).toNat IntKind.u64.bits))) ^^^ BitVec.ofInt IntKind.u64.bits (IntKind.u64.wrap (n.fdiv (2 ^ (min (63 : Int).toNat IntKind.i64.bits))))).toNat = (zig n : Int) := by
  have e1 : (2 : Int) ^ (min (1 : Int).toNat IntKind.u64.bits) = 2 := by decide
  have e2 : (2 : Int) ^ (min (63 : Int).toNat IntKind.i64.bits) = 9223372036854775808 := by decide
  have e3 : IntKind.u64.bits = 64 := rfl
  rw [e1, e2, e3, Int.fdiv_eq_ediv_of_nonneg _ (by omega)]
  rcases Decidable.em (0 ≤ n) with hn | hn
  · have : n / 9223372036854775808 = 0 := by omega
    rw [this]
    simp only [u64_wrap]
    have e4 : n % 18446744073709551616 * 2 % 18446744073709551616 = 2 * n := by omega
    rw [e4]
    have e5 : BitVec.ofInt 64 (2 * n) ^^^ BitVec.ofInt 64 (0 % 18446744073709551616) = BitVec.ofInt 64 (2 * n) := by simp
    rw [e5, BitVec.toNat_ofInt]
    unfold zig
    rw [if_pos hn]
    omega
  · have : n / 9223372036854775808 = -1 := by omega
    rw [this]
    simp only [u64_wrap]
    have e4 : n % 18446744073709551616 * 2 % 18446744073709551616 = 18446744073709551616 + 2 * n := by omega
    rw [e4]
    have e5 : BitVec.ofInt 64 (-1 % 18446744073709551616) = BitVec.allOnes 64 := by decide
    rw [e5, BitVec.xor_allOnes, BitVec.toNat_not, BitVec.toNat_ofInt]
    unfold zig
    rw [if_neg hn]
    omega
end Go.Proofs.Ytnmfpgfgjjmfhaa
