/- conf: what is reached, plainly. -/
import Derived.Test.YtnmfpgfgjjmfhaaCg1
set_option linter.unusedVariables false
set_option linter.unusedSimpArgs false
set_option maxRecDepth 100000
namespace Go.Proofs.Ytnmfpgfgjjmfhaa
open Go
attribute [local irreducible] Exit.then Exit.inBlock Code.wp runS bodyPost postF J runT cutQ cutR Tr Sat blk Sl Old Star Ex Pu

def ownL (mt : List Int) (i : Nat) : List Int := (List.range 7).map fun j => if j < i then mt.getD j 0 else 0
theorem ownL_len (mt : List Int) (i : Nat) : (ownL mt i).length = 7 := by simp [ownL]
theorem ownL_get (mt : List Int) (i : Nat) {j : Nat} (hj : j < 7) : (ownL mt i)[j]? = some (if j < i then mt.getD j 0 else 0) := by
  simp [ownL, hj]
theorem ownL_zero (mt : List Int) : ownL mt 0 = List.replicate 7 0 := by
  refine List.ext_getElem? fun j => ?_
  by_cases hj : j < 7
  · rw [ownL_get mt 0 hj, List.getElem?_replicate]; simp [hj]
  · rw [List.getElem?_eq_none (by rw [ownL_len]; omega), List.getElem?_eq_none (by simp; omega)]
theorem ownL_set (mt : List Int) {i : Nat} (hi : i < 7) : (ownL mt i).set i (mt.getD i 0) = ownL mt (i + 1) := by
  refine List.ext_getElem? fun j => ?_
  by_cases hj : j < 7
  · rw [List.getElem?_set, ownL_get mt _ hj, ownL_get mt _ hj, ownL_len]
    by_cases e : i = j
    · subst e; simp [hi]
    · rw [if_neg e]
      congr 1
      by_cases c : j < i
      · rw [if_pos c, if_pos (by omega)]
      · rw [if_neg c, if_neg (by omega)]
  · rw [List.getElem?_eq_none (by rw [List.length_set, ownL_len]; omega), List.getElem?_eq_none (by rw [ownL_len]; omega)]
theorem ownL_skip (mt : List Int) {i : Nat} (hi : mt.length ≤ i) : ownL mt i = ownL mt (i + 1) := by
  unfold ownL
  refine List.map_congr_left fun j _ => ?_
  by_cases c : j < i
  · rw [if_pos c, if_pos (by omega)]
  · rw [if_neg c]
    by_cases e : j < i + 1
    · rw [if_pos e, List.getD_eq_getElem?_getD, List.getElem?_eq_none (by omega)]; rfl
    · rw [if_neg e]

/-- bits told one by one -/
def bitsL (f : Nat → Bool) : Nat → Int
  | 0 => 0
  | i + 1 => if f i then ior (bitsL f i) (IntKind.i64.wrap (1 * 2 ^ (min (i : Int).toNat IntKind.i64.bits))) else bitsL f i
theorem bitsL_yes {f : Nat → Bool} {i : Nat} (h : f i = true) : bitsL f (i + 1) = ior (bitsL f i) (IntKind.i64.wrap (1 * 2 ^ (min (i : Int).toNat IntKind.i64.bits))) := by
  show (if f i = true then _ else _) = _
  rw [if_pos h]
theorem bitsL_no {f : Nat → Bool} {i : Nat} (h : ¬ f i = true) : bitsL f i = bitsL f (i + 1) := by
  show _ = (if f i = true then _ else _)
  rw [if_neg h]
theorem bit_one {i j : Nat} (hi : i < 7) (hj : j < 7) : bitI (IntKind.i64.wrap (1 * 2 ^ (min (i : Int).toNat IntKind.i64.bits))) j = decide (j = i) := by
  have : ∀ i ∈ List.range 7, ∀ j ∈ List.range 7, bitI (IntKind.i64.wrap (1 * 2 ^ (min (i : Int).toNat IntKind.i64.bits))) j = decide (j = i) := by decide +kernel
  exact this i (List.mem_range.2 hi) j (List.mem_range.2 hj)
theorem bitsL_bit (f : Nat → Bool) {j : Nat} (hj : j < 7) : ∀ i, i ≤ 7 → bitI (bitsL f i) j = (decide (j < i) && f j)
  | 0, _ => by simp [bitsL, bitI]
  | i + 1, hi => by
    have ih := bitsL_bit f hj i (by omega)
    unfold bitsL
    by_cases hf : f i = true
    · rw [if_pos hf, bitI_or, ih, bit_one (by omega) hj]
      by_cases e : j = i
      · subst e; simp [hf]
      · by_cases c : j < i
        · simp [c, show j < i + 1 by omega, e]
        · simp [c, show ¬ j < i + 1 by omega, e]
    · rw [if_neg hf, ih]
      by_cases e : j = i
      · subst e; simp [hf]
      · by_cases c : j < i
        · simp [c, show j < i + 1 by omega]
        · simp [c, show ¬ j < i + 1 by omega]

theorem most_has {m : Int} (hm : mayC m) {ow : List Int} (h0 : ∀ i : Nat, 0 ≤ ow.getD i 0) : mostC m (bitsL (fun i => decide (reachedC m ow ≤ ow.getD i 0)) 7) := by
  rw [mostC_iff]
  refine ⟨hm, ?_⟩
  rw [cnt_congr (f := fun i => bitI m i && bitI (bitsL (fun i => decide (reachedC m ow ≤ ow.getD i 0)) 7) i) (g := fun i => bitI m i && decide (reachedC m ow ≤ ow.getD i 0)) fun i hi => by
    have := List.mem_range.1 hi
    rw [bitsL_bit _ this 7 (Nat.le_refl _), decide_eq_true this, Bool.true_and]]
  exact (reached_has hm h0 _).1 (Int.le_refl _)
theorem most_above {m : Int} (hm : mayC m) {ow : List Int} (h0 : ∀ i : Nat, 0 ≤ ow.getD i 0) : ¬ mostC m (bitsL (fun i => decide (reachedC m ow < ow.getD i 0)) 7) := by
  rw [mostC_iff]
  rintro ⟨_, h⟩
  rw [cnt_congr (f := fun i => bitI m i && bitI (bitsL (fun i => decide (reachedC m ow < ow.getD i 0)) 7) i) (g := fun i => bitI m i && decide (reachedC m ow + 1 ≤ ow.getD i 0)) fun i hi => by
    have := List.mem_range.1 hi
    rw [bitsL_bit _ this 7 (Nat.le_refl _), decide_eq_true this, Bool.true_and]
    rfl] at h
  have := (reached_has hm h0 _).2 h
  omega
theorem reached_mono {m : Int} (hm : mayC m) {ow : List Int} (h0 : ∀ i : Nat, 0 ≤ ow.getD i 0) (i : Nat) (x : Int) (hx : ow.getD i 0 ≤ x) : reachedC m ow ≤ reachedC m (ow.set i x) := by
  have hg : ∀ k : Nat, ow.getD k 0 ≤ (ow.set i x).getD k 0 := fun k => by
    simp only [List.getD_eq_getElem?_getD, List.getElem?_set] at hx ⊢
    by_cases e : i = k
    · subst e
      by_cases c : i < ow.length
      · simp only [if_pos c, if_true, Option.getD_some]; exact hx
      · simp [c, List.getElem?_eq_none (Nat.le_of_not_lt c)]
    · rw [if_neg e]; exact Int.le_refl _
  have h0' : ∀ k : Nat, 0 ≤ (ow.set i x).getD k 0 := fun k => Int.le_trans (h0 k) (hg k)
  rw [reached_has hm h0']
  refine Nat.lt_of_lt_of_le ((reached_has hm h0 _).1 (Int.le_refl _)) (Nat.mul_le_mul_left 2 (cnt_mono fun k _ hk => ?_))
  simp only [Bool.and_eq_true, decide_eq_true_eq] at hk ⊢
  exact ⟨hk.1, Int.le_trans hk.2 (hg k)⟩
end Go.Proofs.Ytnmfpgfgjjmfhaa
