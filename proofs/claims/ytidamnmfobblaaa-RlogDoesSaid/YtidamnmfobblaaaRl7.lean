/- What Put does to a log: plain laws. -/
import Derived.Test.YtidamnmfobblaaaRl4
set_option linter.unusedVariables false
set_option linter.unusedSimpArgs false
set_option maxRecDepth 100000
namespace Go.Proofs.Ytidamnmfobblaaa
open Go
attribute [local irreducible] Exit.then Exit.inBlock Code.wp runS bodyPost postF J runT cutQ cutR Tr Sat blk Sl Old Star Ex Pu

theorem fromL_all (s : LogS) (m : Int) (h : s.l.length ≤ m) : fromL s (s.i + 1) m = s.l := by
  unfold fromL
  by_cases h0 : s.l.length = 0
  · rw [if_neg (by omega)]
    exact (List.length_eq_zero_iff.1 h0).symm
  · rw [if_pos (by omega), show (s.i + 1 - s.i - 1).toNat = 0 from by omega, List.drop_zero, List.take_of_length_le (by omega)]

theorem putL_laws (s : LogS) : ∀ (xl : List Ent) (pv : Int), s.i ≤ pv → pv - s.i ≤ s.l.length →
    (putL s pv xl).2.i = s.i ∧ (putL s pv xl).2.t = s.t ∧
    (∀ (i : Nat) x, xl[i]? = some x → termOf (putL s pv xl).2 (pv + 1 + i) = some x.t) ∧
    (∀ j : Int, j ≤ pv → termOf (putL s pv xl).2 j = termOf s j) ∧
    ((putL s pv xl).1 = 0 ∧ (putL s pv xl).2 = s ∨ pv < (putL s pv xl).1) ∧
    (putL s pv xl).2.l.length ≤ s.l.length + xl.length ∧
    ((putL s pv xl).2.l.length ≤ s.l.length ∨ s.i + (putL s pv xl).2.l.length ≤ pv + xl.length)
  | [], pv, h1, h2 => by
    unfold putL
    exact ⟨rfl, rfl, by simp, fun _ _ => rfl, .inl ⟨rfl, rfl⟩, by simp, .inl (Nat.le_refl _)⟩
  | x :: r, pv, h1, h2 => by
    unfold putL
    by_cases hm : termOf s (pv + 1) = some x.t
    · rw [if_pos hm]
      have hin := termOf_in hm
      obtain ⟨i1, i2, i3, i4, i5, i6, i7⟩ := putL_laws s r (pv + 1) (by omega) hin.2
      refine ⟨i1, i2, fun i y hy => ?_, fun j hj => i4 j (by omega), ?_, by simp; omega, ?_⟩
      · cases i with
        | zero =>
          simp at hy; subst hy
          rw [show pv + 1 + ((0 : Nat) : Int) = pv + 1 from by omega, i4 _ (by omega)]
          exact hm
        | succ i =>
          have := i3 i y (by simpa using hy)
          rw [show pv + 1 + ((i + 1 : Nat) : Int) = pv + 1 + 1 + i from by omega]
          exact this
      · rcases i5 with h | h
        · exact .inl h
        · exact .inr (by omega)
      · rcases i7 with h | h
        · exact .inl h
        · exact .inr (by simp; omega)
    · rw [if_neg hm]
      obtain ⟨k, hk⟩ : ∃ k : Nat, pv - s.i = k := ⟨(pv - s.i).toNat, by omega⟩
      have hkl : k ≤ s.l.length := by omega
      rw [hk]
      simp only [Int.toNat_natCast]
      have hlen : (s.l.take k ++ x :: r).length = k + r.length + 1 := by simp; omega
      refine ⟨trivial, trivial, fun i y hy => ?_, fun j hj => ?_, .inr (by omega), by rw [hlen]; simp; omega, .inr (by rw [hlen]; simp; omega)⟩
      · have hi : i < (x :: r).length := (List.getElem?_eq_some_iff.1 hy).1
        simp only [List.length_cons] at hi
        unfold termOf
        dsimp only
        rw [hlen, if_neg (by omega), if_pos (by omega), show (pv + 1 + (i : Int) - s.i - 1).toNat = k + i from by omega, List.getElem?_append_right (by simp; omega), List.length_take, Nat.min_eq_left hkl, Nat.add_sub_cancel_left, hy]
        rfl
      · unfold termOf
        dsimp only
        by_cases e1 : j = s.i
        · rw [if_pos e1, if_pos e1]
        · rw [if_neg e1, if_neg e1]
          by_cases e2 : s.i < j
          · rw [hlen, if_pos (by omega), if_pos (by omega), List.getElem?_append_left (by simp; omega), List.getElem?_take_of_lt (by omega)]
          · rw [if_neg (by omega), if_neg (by omega)]

theorem putL_same {s : LogS} : ∀ {xl : List Ent} {pv : Int}, (∀ (i : Nat) x, xl[i]? = some x → termOf s (pv + 1 + i) = some x.t) → putL s pv xl = (0, s)
  | [], pv, h => rfl
  | x :: r, pv, h => by
    unfold putL
    have h0 := h 0 x rfl
    rw [show pv + 1 + ((0 : Nat) : Int) = pv + 1 from by omega] at h0
    rw [if_pos h0]
    refine putL_same fun i y hy => ?_
    have := h (i + 1) y (by simpa using hy)
    rw [show pv + 1 + 1 + (i : Int) = pv + 1 + ((i + 1 : Nat) : Int) from by omega]
    exact this

/-- what was put is there; put again it changes nothing -/
theorem putR_laws (s : LogS) (pv t : Int) (xl : List Ent) (hs : LOk s) (hb : s.l.length + xl.length ≤ 1000000) :
    ((putR s pv t xl).2.1 ≠ 0 → (putR s pv t xl).1 = 0 ∧ (putR s pv t xl).2.2 = s) ∧
    (putR s pv t xl).2.2.i = s.i ∧ (putR s pv t xl).2.2.t = s.t ∧ LOk (putR s pv t xl).2.2 ∧ (putR s pv t xl).2.2.l.length ≤ s.l.length + xl.length ∧
    ((putR s pv t xl).2.1 = 0 → (∀ (i : Nat) x, xl[i]? = some x → s.i < pv + 1 + i → termOf (putR s pv t xl).2.2 (pv + 1 + i) = some x.t) ∧
      putR (putR s pv t xl).2.2 pv t xl = (0, 0, (putR s pv t xl).2.2) ∧ ((putR s pv t xl).1 = 0 → (putR s pv t xl).2.2 = s)) ∧
    ((putR s pv t xl).2.1 = 0 → 0 ≤ pv ∧ pv + xl.length ≤ 4611686018427387904) := by
  obtain ⟨h1, h2, h3⟩ := hs
  by_cases c1 : pv < 0 ∨ pv > 4611686018427387904 - xl.length
  · have e : putR s pv t xl = (0, 2, s) := by unfold putR; rw [if_pos c1]
    rw [e]
    exact ⟨fun _ => ⟨rfl, rfl⟩, rfl, rfl, ⟨h1, h2, h3⟩, by simp, fun h => absurd h (by simp), fun h => absurd h (by simp)⟩
  by_cases c2 : pv < s.i
  · by_cases c3 : pv + xl.length ≤ s.i
    · have e : putR s pv t xl = (0, 32, s) := by unfold putR; rw [if_neg c1, if_pos c2, if_pos c3]
      rw [e]
      exact ⟨fun _ => ⟨rfl, rfl⟩, rfl, rfl, ⟨h1, h2, h3⟩, by simp, fun h => absurd h (by simp), fun h => absurd h (by simp)⟩
    · obtain ⟨d, hd⟩ : ∃ d : Nat, s.i - pv = d := ⟨(s.i - pv).toNat, by omega⟩
      have e : ∀ s' : LogS, s'.i = s.i → putR s' pv t xl = ((putL s' s.i (xl.drop d)).1, 0, (putL s' s.i (xl.drop d)).2) := fun s' hs' => by
        unfold putR
        rw [hs', if_neg c1, if_pos c2, if_neg c3, hd]; rfl
      obtain ⟨i1, i2, i3, i4, i5, i6, i7⟩ := putL_laws s (xl.drop d) s.i (by omega) (by omega)
      rw [e s rfl]
      simp only [List.length_drop] at i6 i7
      refine ⟨fun h => absurd rfl h, i1, i2, ⟨by rw [i1]; exact h1, by rw [i1]; dsimp only; omega, by dsimp only; omega⟩, by dsimp only; omega, fun _ => ⟨fun i x hx hi => ?_, ?_, fun h => ?_⟩, fun _ => by omega⟩
      · have hdi : d ≤ i := by omega
        have := i3 (i - d) x (by rw [List.getElem?_drop, show d + (i - d) = i from by omega]; exact hx)
        rw [show pv + 1 + (i : Int) = s.i + 1 + ((i - d : Nat) : Int) from by omega]
        exact this
      · rw [e _ i1, putL_same i3]
      · rcases i5 with h5 | h5
        · exact h5.2
        · dsimp only at h; omega
  · by_cases c3 : termOf s pv = some t
    · have e : ∀ s' : LogS, s'.i = s.i → termOf s' pv = some t → putR s' pv t xl = ((putL s' pv xl).1, 0, (putL s' pv xl).2) := fun s' hs' ht' => by
        unfold putR
        rw [hs', if_neg c1, if_neg c2, if_pos ht']
      have hin := termOf_in c3
      obtain ⟨i1, i2, i3, i4, i5, i6, i7⟩ := putL_laws s xl pv hin.1 hin.2
      rw [e s rfl c3]
      refine ⟨fun h => absurd rfl h, i1, i2, ⟨by rw [i1]; exact h1, by rw [i1]; dsimp only; omega, by dsimp only; omega⟩, i6, fun _ => ⟨fun i x hx _ => i3 i x hx, ?_, fun h => ?_⟩, fun _ => by omega⟩
      · rw [e _ i1 (by rw [i4 pv (by omega)]; exact c3), putL_same i3]
      · rcases i5 with h5 | h5
        · exact h5.2
        · dsimp only at h; omega
    · have e : putR s pv t xl = (0, 10, s) := by unfold putR; rw [if_neg c1, if_neg c2, if_neg c3]
      rw [e]
      exact ⟨fun _ => ⟨rfl, rfl⟩, rfl, rfl, ⟨h1, h2, h3⟩, by simp, fun h => absurd h (by simp), fun h => absurd h (by simp)⟩

end Go.Proofs.Ytidamnmfobblaaa
