/- Items as they come to package wire; the values that are made of them. -/
import Derived.Test.YtnmfpgfgjjmfhaaWi3
import Derived.Test.YtnmfpgfgjjmfhaaSp
set_option linter.unusedVariables false
set_option linter.unusedSimpArgs false
namespace Go.Proofs.Ytnmfpgfgjjmfhaa
open Go

/-- a value, plain -/
inductive Va where
  | num (n : Int)
  | txt (s : ByteArray)
  | lst (l : List Va)
mutual
def plA : AT → Va
  | .num n => .num n
  | .txt s => .txt s
  | .lst _ _ l => .lst (plL l)
def plL : List AT → List Va
  | [] => []
  | t :: l => plA t :: plL l
end
mutual
def encV : Va → List UInt8
  | .num n => 1 :: cntB (zig n)
  | .txt s => 2 :: cntB s.size ++ s.data.toList
  | .lst l => 3 :: cntB l.length ++ encVL l
def encVL : List Va → List UInt8
  | [] => []
  | v :: l => encV v ++ encVL l
end
theorem plL_len : ∀ l, (plL l).length = l.length
  | [] => rfl
  | t :: l => by rw [plL, List.length_cons, plL_len l, List.length_cons]
mutual
theorem enc_pl : ∀ t, encA t = encV (plA t)
  | .num _ => rfl
  | .txt _ => rfl
  | .lst a c l => by simp only [encA, plA, encV, plL_len, encL_pl l]
theorem encL_pl : ∀ l, encL l = encVL (plL l)
  | [] => rfl
  | t :: l => by simp only [encL, plL, encVL, enc_pl t, encL_pl l]
end
theorem plL_append : ∀ (l m : List AT), plL (l ++ m) = plL l ++ plL m
  | [], _ => rfl
  | t :: l, m => by simp only [List.cons_append, plL, plL_append l m]

/-- an item, with where its lists lie -/
inductive IA where
  | num (n : Int) (a : Option Addr) (c : Nat)
  | txt (s : ByteArray) (a : Option Addr) (c : Nat)
  | lst (a : Option Addr) (c : Nat) (l : List IA)
def cellsI : IA → List Value
  | .num n a c => [.int .i64 1, .int .i64 n, .string ⟨#[]⟩, .slice a 0 c]
  | .txt s a c => [.int .i64 2, .int .i64 0, .string s, .slice a 0 c]
  | .lst a c l => [.int .i64 3, .int .i64 0, .string ⟨#[]⟩, .slice a l.length c]
instance : Enc IA := ⟨cellsI, 4, fun x => by cases x <;> rfl, by decide, fun x u hu => by cases x <;> (simp [cellsI] at hu; rcases hu with rfl | rfl | rfl | rfl <;> rfl)⟩
mutual
def plI : IA → Va
  | .num n _ _ => .num n
  | .txt s _ _ => .txt s
  | .lst _ _ l => .lst (plIL l)
def plIL : List IA → List Va
  | [] => []
  | t :: l => plI t :: plIL l
end
theorem plIL_snoc (l : List IA) {i : Nat} {t : IA} (h : l[i]? = some t) : plIL (l.take (i + 1)) = plIL (l.take i) ++ [plI t] := by
  induction l generalizing i with
  | nil => simp at h
  | cons x l ih =>
    match i with
    | 0 => simp at h; subst h; simp [plIL]
    | i + 1 => rw [List.getElem?_cons_succ] at h; rw [List.take_succ_cons, List.take_succ_cons, plIL, plIL, ih h]; rfl
mutual
def OkI (w : World) : IA → Prop
  | .num .. => True
  | .txt .. => True
  | .lst a _ l => Vw w a l ∧ OkIL w l
def OkIL (w : World) : List IA → Prop
  | [] => True
  | t :: l => OkI w t ∧ OkIL w l
end
theorem okIL_at {w : World} {l : List IA} {i : Nat} {t : IA} (h : l[i]? = some t) (hl : OkIL w l) : OkI w t := by
  induction l generalizing i with
  | nil => simp at h
  | cons x l ih =>
    simp only [OkIL] at hl
    match i with
    | 0 => simp at h; subst h; exact hl.1
    | i + 1 => rw [List.getElem?_cons_succ] at h; exact ih h hl.2
mutual
/-- how many items there are -/
def cntI : IA → Nat
  | .num .. => 1
  | .txt .. => 1
  | .lst _ _ l => 1 + cntIL l
def cntIL : List IA → Nat
  | [] => 0
  | t :: l => cntI t + cntIL l
end
theorem cntIL_at {l : List IA} {i : Nat} {t : IA} (h : l[i]? = some t) : cntIL (l.take (i + 1)) = cntIL (l.take i) + cntI t := by
  induction l generalizing i with
  | nil => simp at h
  | cons x l ih =>
    match i with
    | 0 => simp at h; subst h; simp [cntIL]
    | i + 1 => rw [List.getElem?_cons_succ] at h; rw [List.take_succ_cons, List.take_succ_cons, cntIL, cntIL, ih h]; omega
theorem cntIL_le (l : List IA) (i : Nat) : cntIL (l.take i) ≤ cntIL l := by
  induction l generalizing i with
  | nil => simp [cntIL]
  | cons x l ih =>
    match i with
    | 0 => simp [cntIL]
    | i + 1 => rw [List.take_succ_cons, cntIL, cntIL]; have := ih i; omega
theorem cntI_pos (t : IA) : 1 ≤ cntI t := by cases t <;> simp [cntI]
mutual
/-- is an item none too great, so deep? -/
def FitI : Nat → IA → Prop
  | d, .num n _ _ => d ≤ 12 ∧ -9223372036854775808 ≤ n ∧ n ≤ 9223372036854775807
  | d, .txt s _ _ => d ≤ 12 ∧ s.size ≤ 4096
  | d, .lst _ _ l => d ≤ 12 ∧ FitIL (d + 1) l
def FitIL : Nat → List IA → Prop
  | _, [] => True
  | d, t :: l => FitI d t ∧ FitIL d l
end
theorem fitIL_at {d : Nat} {l : List IA} {i : Nat} {t : IA} (h : l[i]? = some t) (hl : FitIL d l) : FitI d t := by
  induction l generalizing i with
  | nil => simp at h
  | cons x l ih =>
    simp only [FitIL] at hl
    match i with
    | 0 => simp at h; subst h; exact hl.1
    | i + 1 => rw [List.getElem?_cons_succ] at h; exact ih h hl.2

/-! ### values that are owned -/
mutual
def OwnS (w : World) (S : Nat → Prop) : AT → Prop
  | .num _ => True
  | .txt _ => True
  | .lst a c l => Sl 20 a c (l.map avOf) w S ∧ OwnL w S l
def OwnL (w : World) (S : Nat → Prop) : List AT → Prop
  | [] => True
  | t :: l => OwnS w S t ∧ OwnL w S l
end
mutual
theorem ownS_loc {w w' : World} {S S' : Nat → Prop} (k : ∀ b, b < w.heap.size → S b → S' b ∧ w'.heap[b]? = w.heap[b]?) (e : Kept0 w w') : ∀ t, OwnS w S t → OwnS w' S' t
  | .num _, _ => by simp only [OwnS]
  | .txt _, _ => by simp only [OwnS]
  | .lst a c l, h => by
    simp only [OwnS] at h ⊢
    exact ⟨Loc.loc h.1 k e, ownL_loc k e l h.2⟩
theorem ownL_loc {w w' : World} {S S' : Nat → Prop} (k : ∀ b, b < w.heap.size → S b → S' b ∧ w'.heap[b]? = w.heap[b]?) (e : Kept0 w w') : ∀ l, OwnL w S l → OwnL w' S' l
  | [], _ => by simp only [OwnL]
  | t :: l, h => by
    simp only [OwnL] at h ⊢
    exact ⟨ownS_loc k e t h.1, ownL_loc k e l h.2⟩
end
def AnyH (t : AT) : HP := fun w S => OwnS w S t
def AnyHL (l : List AT) : HP := fun w S => OwnL w S l
instance (t : AT) : Loc (AnyH t) := ⟨fun h k e => ownS_loc k e t h⟩
instance (l : List AT) : Loc (AnyHL l) := ⟨fun h k e => ownL_loc k e l h⟩
theorem ownL_snoc {w : World} {S : Nat → Prop} : ∀ (l : List AT) (t : AT), OwnL w S l → OwnS w S t → OwnL w S (l ++ [t])
  | [], t, _, h2 => by simp only [List.nil_append, OwnL]; exact ⟨h2, trivial⟩
  | x :: l, t, h, h2 => by
    simp only [List.cons_append, OwnL] at h ⊢
    exact ⟨h.1, ownL_snoc l t h.2 h2⟩
mutual
theorem own_ok {w : World} {S : Nat → Prop} : ∀ t, OwnS w S t → OkA w t
  | .num _, _ => by simp only [OkA]
  | .txt _, _ => by simp only [OkA]
  | .lst a c l, h => by
    simp only [OwnS, OkA] at h ⊢
    exact ⟨SlO.read h.1, ownL_ok l h.2⟩
theorem ownL_ok {w : World} {S : Nat → Prop} : ∀ l, OwnL w S l → OkL w l
  | [], _ => by simp only [OkL]
  | t :: l, h => by
    simp only [OwnL, OkL] at h ⊢
    exact ⟨own_ok t h.1, ownL_ok l h.2⟩
end
theorem sees_any {M : List HP} {t : AT} (h : At M (AnyH t)) : Sees M (fun w => OkA w t) := Sees.of_at h fun w S hS => own_ok t hS
theorem j_anyL0 {n : Nat} {fm : Fm} {L : List HP} {X : Go.Act → World → Prop} (h : J n fm (AnyHL [] :: L) X) : J n fm L X :=
  fun aa w hr hw => h aa w hr (hw.new (A' := AnyHL []) (show OwnL w _ [] by simp only [OwnL]) (fun _ _ => rfl) (Kept0.refl w))
theorem j_any0 {n : Nat} {fm : Fm} {L : List HP} {X : Go.Act → World → Prop} {t : AT} (ht : ∀ w S, OwnS w S t) (h : J n fm (AnyH t :: L) X) : J n fm L X :=
  fun aa w hr hw => h aa w hr (hw.new (A' := AnyH t) (ht _ _) (fun _ _ => rfl) (Kept0.refl w))
theorem star_mono {A B : HP} [Loc A] [Loc B] {w : World} {S : Nat → Prop} (h : Star A B w S) : A w S ∧ B w S := by
  obtain ⟨T, h1, h2⟩ := h
  exact ⟨loc_mono h1 (fun b hb => hb.1), loc_mono h2 (fun b hb => hb.1)⟩
theorem j_anySnoc {n : Nat} {fm : Fm} {L : List HP} {X : Go.Act → World → Prop} {l : List AT} {t : AT} (h : J n fm (AnyHL (l ++ [t]) :: L) X) : J n fm (AnyH t :: AnyHL l :: L) X :=
  j_unstar (j_imp (B := AnyHL (l ++ [t])) (fun w S hS => ownL_snoc l t (star_mono hS).2 (star_mono hS).1) h)
theorem j_anyLst {n : Nat} {fm : Fm} {L : List HP} {X : Go.Act → World → Prop} {l : List AT} {a : Option Addr} {c : Nat} (h : J n fm (AnyH (.lst a c l) :: L) X) : J n fm (Sl 20 a c (l.map avOf) :: AnyHL l :: L) X :=
  j_unstar (j_imp (B := AnyH (.lst a c l)) (fun w S hS => by
    show OwnS w S (.lst a c l)
    simp only [OwnS]
    exact ⟨(star_mono hS).1, (star_mono hS).2⟩) h)
end Go.Proofs.Ytnmfpgfgjjmfhaa
