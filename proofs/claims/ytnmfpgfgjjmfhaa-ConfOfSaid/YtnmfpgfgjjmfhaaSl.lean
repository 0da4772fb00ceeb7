/-
  The machinery of these proofs, over any program: assertions on blocks of memory (HP), a list of them that holds on disjoint blocks (Sat), what is known of a frame (Rep), and one rule for each form of code and of operation.
-/
import Derived.WalkKit
import Derived.Orders
set_option linter.unusedVariables false
set_option linter.unusedSimpArgs false
namespace Go.Proofs.Ytnmfpgfgjjmfhaa
open Go

/-! ## assertions -/

abbrev HP := World → (Nat → Prop) → Prop

/-- what is kept beside the blocks -/
structure Kept0 (w w' : World) : Prop where
  os : w'.os = w.os
  output : w'.output = w.output
  tape : w'.tape = w.tape

theorem Kept0.refl (w : World) : Kept0 w w := ⟨rfl, rfl, rfl⟩
theorem Kept0.trans {a b c : World} (h : Kept0 a b) (k : Kept0 b c) : Kept0 a c := ⟨k.os.trans h.os, k.output.trans h.output, k.tape.trans h.tape⟩

/-- the assertion hangs on the blocks of S that are there, and on what is kept -/
class Loc (A : HP) : Prop where
  loc : ∀ {w w' : World} {S S' : Nat → Prop}, A w S → (∀ b, b < w.heap.size → S b → S' b ∧ w'.heap[b]? = w.heap[b]?) → Kept0 w w' → A w' S'

def pts (b : Nat) (o : Obj) : HP := fun w S => S b ∧ w.heap[b]? = some o
def Star (A B : HP) : HP := fun w S => ∃ T : Nat → Prop, A w (fun b => S b ∧ T b) ∧ B w (fun b => S b ∧ ¬ T b)
def Ex {α : Type} (A : α → HP) : HP := fun w S => ∃ x, A x w S
def Pu (p : Prop) : HP := fun _ _ => p
def Emp : HP := fun _ _ => True
/-- the world w0 below block N, as it was -/
def Old (w0 : World) : HP := fun w S => Kept0 w0 w ∧ ∀ b, b < w0.heap.size → S b ∧ w.heap[b]? = w0.heap[b]?

theorem lt_of_heap {w : World} {b : Nat} {o : Obj} (h : w.heap[b]? = some o) : b < w.heap.size := (Array.getElem?_eq_some_iff.1 h).1

instance (b : Nat) (o : Obj) : Loc (pts b o) := ⟨fun h k _ => by
  obtain ⟨h1, h2⟩ := k b (lt_of_heap h.2) h.1
  exact ⟨h1, h2.trans h.2⟩⟩
instance (A B : HP) [Loc A] [Loc B] : Loc (Star A B) := ⟨fun ⟨T, h1, h2⟩ k e =>
  ⟨T, Loc.loc h1 (fun b hb hS => ⟨⟨(k b hb hS.1).1, hS.2⟩, (k b hb hS.1).2⟩) e, Loc.loc h2 (fun b hb hS => ⟨⟨(k b hb hS.1).1, hS.2⟩, (k b hb hS.1).2⟩) e⟩⟩
instance {α : Type} (A : α → HP) [∀ x, Loc (A x)] : Loc (Ex A) := ⟨fun ⟨x, h⟩ k e => ⟨x, Loc.loc h k e⟩⟩
instance (p : Prop) : Loc (Pu p) := ⟨fun h _ _ => h⟩
instance : Loc Emp := ⟨fun _ _ _ => trivial⟩
instance (w0 : World) : Loc (Old w0) := ⟨fun h k e => ⟨h.1.trans e, fun b hb => by
  obtain ⟨h1, h2⟩ := h.2 b hb
  have hlt : b < _ := lt_of_heap (h2.trans (Array.getElem?_eq_getElem hb))
  obtain ⟨h3, h4⟩ := k b hlt h1
  exact ⟨h3, h4.trans h2⟩⟩⟩

/-- each assertion of the list holds, each on blocks of its own -/
def Sat (L : List HP) (w : World) : Prop := (∀ A ∈ L, Loc A) ∧ ∃ own : Nat → Nat, ∀ (i : Nat) A, L[i]? = some A → A w (fun b => own b = i)

theorem Sat.get {L : List HP} {w : World} (h : Sat L w) {i : Nat} {A : HP} (hi : L[i]? = some A) : ∃ S, A w S := by
  obtain ⟨_, own, h⟩ := h
  exact ⟨_, h i A hi⟩

theorem Sat.hpts {L : List HP} {w : World} (h : Sat L w) {i : Nat} {b : Nat} {o : Obj} (hi : L[i]? = some (pts b o)) : w.heap[b]? = some o := by
  obtain ⟨S, h⟩ := h.get hi
  exact h.2

/-- nothing of the heap has turned -/
theorem Sat.same {L : List HP} {w w' : World} (h : Sat L w) (hh : w'.heap = w.heap) (e : Kept0 w w') : Sat L w' := by
  obtain ⟨hl, own, h⟩ := h
  refine ⟨hl, own, fun i A hi => ?_⟩
  have := hl A (List.mem_of_getElem? hi)
  exact Loc.loc (h i A hi) (fun b _ hb => ⟨hb, by rw [hh]⟩) e

theorem Sat.drew {L : List HP} {w : World} (h : Sat L w) : Sat L w.drew := h.same rfl ⟨rfl, rfl, rfl⟩

/-- THE change: entry i is replaced; its blocks, and new ones, may have turned -/
theorem Sat.upd {L : List HP} {w w' : World} (h : Sat L w) {i : Nat} {A A' : HP} [hA' : Loc A'] (hi : L[i]? = some A)
    (hk : ∀ S, A w S → A' w' (fun b => S b ∨ w.heap.size ≤ b) ∧ ∀ b, b < w.heap.size → ¬ S b → w'.heap[b]? = w.heap[b]?) (e : Kept0 w w') : Sat (L.set i A') w' := by
  classical
  obtain ⟨hl, own, h⟩ := h
  obtain ⟨k1, k2⟩ := hk _ (h i A hi)
  have hlen : i < L.length := (List.getElem?_eq_some_iff.1 hi).1
  refine ⟨fun B hB => ?_, fun b => if w.heap.size ≤ b then i else own b, fun j B hj => ?_⟩
  · rcases List.mem_or_eq_of_mem_set hB with h | h
    · exact hl B h
    · subst h; exact hA'
  · by_cases hij : i = j
    · subst hij
      rw [List.getElem?_set_self hlen] at hj
      obtain rfl := Option.some.inj hj
      refine cast ?_ k1
      congr 1
      funext b
      by_cases hb : w.heap.size ≤ b <;> simp [hb]
    · rw [List.getElem?_set_ne hij] at hj
      have := hl B (List.mem_of_getElem? hj)
      refine Loc.loc (h j B hj) (fun b hb hS => ?_) e
      refine ⟨?_, k2 b hb (fun he => hij (he.symm.trans hS))⟩
      show (if w.heap.size ≤ b then i else own b) = j
      rw [if_neg (by omega)]
      exact hS

/-- a new entry, on new blocks; the old ones are as they were -/
theorem Sat.new {L : List HP} {w w' : World} (h : Sat L w) {A' : HP} [hA' : Loc A']
    (hk : A' w' (fun b => w.heap.size ≤ b)) (hkeep : ∀ b, b < w.heap.size → w'.heap[b]? = w.heap[b]?) (e : Kept0 w w') : Sat (A' :: L) w' := by
  classical
  obtain ⟨hl, own, h⟩ := h
  refine ⟨fun B hB => ?_, fun b => if w.heap.size ≤ b then 0 else own b + 1, fun j B hj => ?_⟩
  · rcases List.mem_cons.1 hB with h | h
    · subst h; exact hA'
    · exact hl B h
  · cases j with
    | zero =>
      simp at hj
      subst hj
      refine cast ?_ hk
      congr 1
      funext b
      by_cases hb : w.heap.size ≤ b <;> simp [hb]
    | succ j =>
      simp at hj
      have := hl B (List.mem_of_getElem? hj)
      refine Loc.loc (h j B hj) (fun b hb hS => ?_) e
      refine ⟨?_, hkeep b hb⟩
      show (if w.heap.size ≤ b then 0 else own b + 1) = j + 1
      rw [if_neg (by omega)]
      simpa using hS

/-- the list in another order, or a part of it: entry i of the new one is entry f i of the old -/
theorem Sat.re {L L' : List HP} {w : World} (h : Sat L w) (f : Nat → Nat) (hinj : ∀ i j, i < L'.length → j < L'.length → f i = f j → i = j)
    (hf : ∀ (i : Nat) A, L'[i]? = some A → L[f i]? = some A) : Sat L' w := by
  classical
  obtain ⟨hl, own, h⟩ := h
  refine ⟨fun B hB => ?_, fun b => if hx : ∃ i, i < L'.length ∧ f i = own b then hx.choose else L'.length, fun j B hj => ?_⟩
  · obtain ⟨i, hi⟩ := List.getElem?_of_mem hB
    exact hl B (List.mem_of_getElem? (hf i B hi))
  · have hlen : j < L'.length := (List.getElem?_eq_some_iff.1 hj).1
    have := hl B (List.mem_of_getElem? (hf j B hj))
    refine Loc.loc (h (f j) B (hf j B hj)) (fun b hb hS => ⟨?_, rfl⟩) (Kept0.refl w)
    have hx : ∃ i, i < L'.length ∧ f i = own b := ⟨j, hlen, hS.symm⟩
    show (if hx : ∃ i, i < L'.length ∧ f i = own b then hx.choose else L'.length) = j
    rw [dif_pos hx]
    exact hinj _ _ hx.choose_spec.1 hlen (hx.choose_spec.2.trans hS)

theorem Sat.tail {A : HP} {L : List HP} {w : World} (h : Sat (A :: L) w) : Sat L w := h.re (· + 1) (fun _ _ _ _ h => by omega) fun i A hi => by simpa using hi

/-- entry i comes to the front -/
theorem Sat.front {L : List HP} {w : World} (h : Sat L w) (i : Nat) {A : HP} (hi : L[i]? = some A) : Sat (A :: L.eraseIdx i) w := by
  have hlen : i < L.length := (List.getElem?_eq_some_iff.1 hi).1
  refine h.re (fun j => if j = 0 then i else if j ≤ i then j - 1 else j) (fun j k hj hk hjk => ?_) (fun j B hj => ?_)
  · by_cases h1 : j = 0 <;> by_cases h2 : k = 0 <;> simp only [h1, h2, if_true, if_false] at hjk ⊢ <;> (repeat' split at hjk) <;> omega
  · cases j with
    | zero => simp at hj ⊢; rw [← hj]; exact hi
    | succ j =>
      simp only [List.getElem?_cons_succ, List.getElem?_eraseIdx] at hj
      simp only [Nat.add_one_ne_zero, if_false, Nat.add_sub_cancel]
      split at hj
      · rw [if_pos (by omega)]; exact hj
      · rw [if_neg (by omega)]; exact hj

theorem Sat.star {A B : HP} [hA : Loc A] [hB : Loc B] {L : List HP} {w : World} (h : Sat (Star A B :: L) w) : Sat (A :: B :: L) w := by
  classical
  obtain ⟨hl, own, h⟩ := h
  obtain ⟨T, h1, h2⟩ := h 0 _ rfl
  refine ⟨fun C hC => ?_, fun b => if own b = 0 then (if T b then 0 else 1) else own b + 1, fun j C hj => ?_⟩
  · simp at hC
    rcases hC with rfl | rfl | hC
    · exact hA
    · exact hB
    · exact hl C (by simp [hC])
  · match j, hj with
    | 0, hj =>
      simp at hj; subst hj
      exact hA.loc h1 (fun b _ hb => ⟨by simp [hb.1, hb.2], rfl⟩) (Kept0.refl w)
    | 1, hj =>
      simp at hj; subst hj
      exact hB.loc h2 (fun b _ hb => ⟨by simp [hb.1, hb.2], rfl⟩) (Kept0.refl w)
    | j + 2, hj =>
      simp at hj
      have := hl C (by simp [List.mem_of_getElem? hj])
      refine Loc.loc (h (j + 1) C (by simpa using hj)) (fun b _ hb => ⟨?_, rfl⟩) (Kept0.refl w)
      simp [hb]

theorem Sat.unstar {A B : HP} [hA : Loc A] [hB : Loc B] {L : List HP} {w : World} (h : Sat (A :: B :: L) w) : Sat (Star A B :: L) w := by
  classical
  obtain ⟨hl, own, h⟩ := h
  refine ⟨fun C hC => ?_, fun b => own b - 1, fun j C hj => ?_⟩
  · simp at hC
    rcases hC with rfl | hC
    · infer_instance
    · exact hl C (by simp [hC])
  · match j, hj with
    | 0, hj =>
      simp at hj; subst hj
      exact ⟨fun b => own b = 0, hA.loc (h 0 A rfl) (fun b _ hb => ⟨⟨by show own b - 1 = 0; omega, hb⟩, rfl⟩) (Kept0.refl w), hB.loc (h 1 B rfl) (fun b _ hb => ⟨⟨by show own b - 1 = 0; omega, by omega⟩, rfl⟩) (Kept0.refl w)⟩
    | j + 1, hj =>
      simp at hj
      have := hl C (by simp [List.mem_of_getElem? hj])
      exact Loc.loc (h (j + 2) C (by simpa using hj)) (fun b _ hb => ⟨by show own b - 1 = j + 1; omega, rfl⟩) (Kept0.refl w)

theorem Sat.ex {α : Type} {A : α → HP} [∀ x, Loc (A x)] {L : List HP} {w : World} (h : Sat (Ex A :: L) w) : ∃ x, Sat (A x :: L) w := by
  obtain ⟨hl, own, h⟩ := h
  obtain ⟨x, hx⟩ := h 0 _ rfl
  refine ⟨x, fun C hC => ?_, own, fun j C hj => ?_⟩
  · rcases List.mem_cons.1 hC with rfl | hC
    · infer_instance
    · exact hl C (by simp [hC])
  · cases j with
    | zero => simp at hj; subst hj; exact hx
    | succ j => exact h (j + 1) C (by simpa using hj)

theorem Sat.unex {α : Type} {A : α → HP} [∀ x, Loc (A x)] {L : List HP} {w : World} (x : α) (h : Sat (A x :: L) w) : Sat (Ex A :: L) w := by
  obtain ⟨hl, own, h⟩ := h
  refine ⟨fun C hC => ?_, own, fun j C hj => ?_⟩
  · rcases List.mem_cons.1 hC with rfl | hC
    · infer_instance
    · exact hl C (by simp [hC])
  · cases j with
    | zero => simp at hj; subst hj; exact ⟨x, h 0 _ rfl⟩
    | succ j => exact h (j + 1) C (by simpa using hj)

theorem Sat.pu {p : Prop} {L : List HP} {w : World} (h : Sat (Pu p :: L) w) : p ∧ Sat L w := by
  obtain ⟨S, hp⟩ := h.get (i := 0) rfl
  exact ⟨hp, h.tail⟩

theorem Sat.unpu {p : Prop} {L : List HP} {w : World} (hp : p) (h : Sat L w) : Sat (Pu p :: L) w := by
  obtain ⟨hl, own, h⟩ := h
  refine ⟨fun C hC => ?_, fun b => own b + 1, fun j C hj => ?_⟩
  · rcases List.mem_cons.1 hC with rfl | hC
    · infer_instance
    · exact hl C hC
  · cases j with
    | zero => simp at hj; subst hj; exact hp
    | succ j => have := h j C (by simpa using hj); simpa using this

/-- the head turned into what follows from it -/
theorem Sat.imp {A B : HP} [hB : Loc B] {L : List HP} {w : World} (hab : ∀ w S, A w S → B w S) (h : Sat (A :: L) w) : Sat (B :: L) w := by
  obtain ⟨hl, own, h⟩ := h
  refine ⟨fun C hC => ?_, own, fun j C hj => ?_⟩
  · rcases List.mem_cons.1 hC with rfl | hC
    · exact hB
    · exact hl C (by simp [hC])
  · cases j with
    | zero => simp at hj; subst hj; exact hab _ _ (h 0 _ rfl)
    | succ j => exact h (j + 1) C (by simpa using hj)

end Go.Proofs.Ytnmfpgfgjjmfhaa
