/- Many places told by a list of assertions. -/
import Derived.Test.YtnmfpgfgjjmfhaaSv
set_option linter.unusedVariables false
set_option linter.unusedSimpArgs false
namespace Go.Proofs.Ytnmfpgfgjjmfhaa
open Go

/-- each assertion of the list, on blocks of its own -/
def All (Ls : List HP) : HP := fun w S => (∀ A ∈ Ls, Loc A) ∧ ∃ own : Nat → Nat, ∀ (i : Nat) A, Ls[i]? = some A → A w (fun b => S b ∧ own b = i)
instance (Ls : List HP) : Loc (All Ls) := ⟨fun {w w' S S'} h k e => by
  obtain ⟨hl, own, h⟩ := h
  refine ⟨hl, own, fun i A hi => ?_⟩
  have := hl A (List.mem_of_getElem? hi)
  exact Loc.loc (h i A hi) (fun b hb hS => ⟨⟨(k b hb hS.1).1, hS.2⟩, (k b hb hS.1).2⟩) e⟩

theorem loc_mono {A : HP} [Loc A] {w : World} {S S' : Nat → Prop} (h : A w S) (hs : ∀ b, S b → S' b) : A w S' := Loc.loc h (fun b _ hb => ⟨hs b hb, rfl⟩) (Kept0.refl w)

theorem all_nil (w : World) (S : Nat → Prop) : All [] w S := ⟨by simp, fun _ => 0, by simp⟩

theorem all_focus {Ls : List HP} {i : Nat} {A : HP} (hi : Ls[i]? = some A) : ∀ w S, All Ls w S → Star A (All (Ls.set i Emp)) w S := by
  intro w S ⟨hl, own, h⟩
  refine ⟨fun b => own b = i, h i A hi, fun B hB => ?_, own, fun j B hj => ?_⟩
  · rcases List.mem_or_eq_of_mem_set hB with hB | rfl
    · exact hl B hB
    · infer_instance
  · rw [List.getElem?_set] at hj
    split at hj
    · split at hj
      · injection hj with hj; subst hj; trivial
      · cases hj
    · rename_i hne
      have := hl B (List.mem_of_getElem? hj)
      exact loc_mono (h j B hj) (fun b hb => ⟨⟨hb.1, fun e => hne (by rw [← e, hb.2])⟩, hb.2⟩)

theorem all_unfocus {Ls : List HP} {i : Nat} {A' : HP} [hA : Loc A'] (hi : i < Ls.length) : ∀ w S, Star A' (All (Ls.set i Emp)) w S → All (Ls.set i A') w S := by
  classical
  intro w S ⟨T, h1, hl, own, h2⟩
  refine ⟨fun B hB => ?_, fun b => if T b then i else if own b = i then Ls.length else own b, fun j B hj => ?_⟩
  · obtain ⟨j, hj⟩ := List.getElem?_of_mem hB
    rw [List.getElem?_set] at hj
    simp only [hi, if_true] at hj
    split at hj
    · injection hj with hj; subst hj; exact hA
    · rename_i hne
      refine hl B (List.mem_of_getElem? (i := j) ?_)
      rw [List.getElem?_set, if_neg hne]; exact hj
  · rw [List.getElem?_set] at hj
    simp only [hi, if_true] at hj
    split at hj
    · rename_i hij
      subst hij
      injection hj with hj; subst hj
      exact loc_mono h1 (fun b hb => ⟨hb.1, by dsimp only; rw [if_pos hb.2]⟩)
    · rename_i hne
      have hjl := (List.getElem?_eq_some_iff.1 hj).1
      have h3 : (Ls.set i Emp)[j]? = some B := by rw [List.getElem?_set, if_neg hne]; exact hj
      have := hl B (List.mem_of_getElem? h3)
      exact loc_mono (h2 j B h3) (fun b hb => ⟨hb.1.1, by dsimp only; rw [if_neg hb.1.2, if_neg (by rw [hb.2]; exact fun e => hne e.symm)]; exact hb.2⟩)

theorem all_snoc {Ls : List HP} {A : HP} [hA : Loc A] : ∀ w S, Star A (All Ls) w S → All (Ls ++ [A]) w S := by
  classical
  intro w S ⟨T, h1, hl, own, h2⟩
  refine ⟨fun B hB => ?_, fun b => if T b then Ls.length else if own b < Ls.length then own b else Ls.length + 1, fun j B hj => ?_⟩
  · rcases List.mem_append.1 hB with h | h
    · exact hl B h
    · rw [List.mem_singleton.1 h]; exact hA
  · rcases Nat.lt_or_ge j Ls.length with hlt | hge
    · rw [List.getElem?_append_left hlt] at hj
      have := hl B (List.mem_of_getElem? hj)
      exact loc_mono (h2 j B hj) (fun b hb => ⟨hb.1.1, by dsimp only; rw [if_neg hb.1.2, if_pos (by rw [hb.2]; exact hlt)]; exact hb.2⟩)
    · rw [List.getElem?_append_right hge] at hj
      have hj0 : j = Ls.length := by have := (List.getElem?_eq_some_iff.1 hj).1; simp at this; omega
      subst hj0
      simp at hj
      subst hj
      exact loc_mono h1 (fun b hb => ⟨hb.1, by dsimp only; rw [if_pos hb.2]⟩)

theorem all_erase {Ls : List HP} {i : Nat} (hi : i < Ls.length) : ∀ w S, All Ls w S → All (Ls.eraseIdx i) w S := by
  intro w S ⟨hl, own, h⟩
  refine ⟨fun B hB => hl B (List.mem_of_mem_eraseIdx hB), fun b => if own b < i then own b else if own b = i then Ls.length else own b - 1, fun j B hj => ?_⟩
  rw [List.getElem?_eraseIdx] at hj
  split at hj
  · rename_i hlt
    have := hl B (List.mem_of_getElem? hj)
    exact loc_mono (h j B hj) (fun b hb => ⟨hb.1, by dsimp only; rw [hb.2, if_pos hlt]⟩)
  · rename_i hge
    have := hl B (List.mem_of_getElem? hj)
    exact loc_mono (h (j + 1) B hj) (fun b hb => ⟨hb.1, by dsimp only; rw [hb.2, if_neg (by omega), if_neg (by omega)]; omega⟩)

section
variable {n : Nat} {fm : Fm} {L : List HP} {X : Act → World → Prop}
theorem j_focus {Ls : List HP} {i : Nat} {A : HP} [Loc A] (hi : Ls[i]? = some A) (h : J n fm (A :: All (Ls.set i Emp) :: L) X) : J n fm (All Ls :: L) X :=
  j_imp (all_focus hi) (j_star h)
theorem j_unfocus {Ls : List HP} {i : Nat} {A' : HP} [Loc A'] (hi : i < Ls.length) (h : J n fm (All (Ls.set i A') :: L) X) : J n fm (A' :: All (Ls.set i Emp) :: L) X :=
  j_unstar (j_imp (all_unfocus hi) h)
theorem j_snoc {Ls : List HP} {A : HP} [Loc A] (h : J n fm (All (Ls ++ [A]) :: L) X) : J n fm (A :: All Ls :: L) X :=
  j_unstar (j_imp all_snoc h)
theorem j_erase {Ls : List HP} {i : Nat} (hi : i < Ls.length) (h : J n fm (All (Ls.eraseIdx i) :: L) X) : J n fm (All Ls :: L) X :=
  j_imp (all_erase hi) h
end

end Go.Proofs.Ytnmfpgfgjjmfhaa
