/- The library's sort of int64s, as a specification. -/
import Derived.Test.YtnmfpgfgjjmfhaaCfP
import Derived.Test.YtnmfpgfgjjmfhaaCfS
set_option linter.unusedVariables false
set_option linter.unusedSimpArgs false
namespace Go.Proofs.Ytnmfpgfgjjmfhaa
open Go Go.Sort
theorem srt_len' (l : List Int) : (srt l).length = l.length := List.length_mergeSort ..
theorem flat_int (ls : List Int) : (ls.map (Enc.enc (α := Int))).flatten = ls.map (Value.int .i64) := by
  induction ls with
  | nil => rfl
  | cons x l ih => simp only [List.map_cons, List.flatten_cons, ih]; rfl

theorem sort_specI (a : Option Addr) (cap : Nat) (ls : List Int) (hbd : ls.length ≤ 1000000) : Tr Try.prog 25 [.slice a ls.length cap] [Sl 2 a cap ls] (fun v M => v = .tuple #[] ∧ M = [Sl 2 a cap (srt ls)]) := by
  intro F w hw
  by_cases hne : ls = []
  · subst hne
    refine (AnyM.slices_Sort_int_none Try.lays5 a cap w).mono fun e w' ⟨he, hw'⟩ => ⟨.tuple #[], [Sl 2 a cap (srt [])], he, ⟨rfl, rfl⟩, ?_⟩
    subst hw'
    rw [show srt [] = [] from List.length_eq_zero_iff.1 (srt_len' [])]
    exact hw
  obtain ⟨S0, hS0⟩ := hw.at (A := Sl 2 a cap ls) .z
  rcases hS0.2 with ⟨_, h0⟩ | ⟨b, junk, rfl, _, hh, h1, h2, h3⟩
  · exact absurd (by simpa using h0) hne
  rw [flat_int] at hh
  have hlt := lt_of_heap hh
  have hcap : ls.length ≤ cap := by simpa using h3
  have hsz : ls.length < 4611686018427387904 := by omega
  have hH : Holds (Value.int .i64) w b 0 ls.toArray := fun j hj => by
    have hjl : j < ls.length := by simpa using hj
    constructor
    · simp [World.cell?, hh, hjl, List.getElem?_append_left]
    · simp [World.frozen?, hh]
  have := AnyM.slices_Sort_int Try.lays5 b 0 cap ls w hH hlt hsz
  refine this.mono fun e w' ⟨he, nn, os, hw'⟩ => ⟨.tuple #[], [Sl 2 (some ⟨b, 0, none⟩) cap (srt ls)], he, ⟨rfl, rfl⟩, ?_⟩
  subst hw'
  have hheap : ∀ q, q < w.heap.size → (grow (putRow (Value.int .i64) (Sort.ahead w nn) b 0 (ls.mergeSort fun x y => decide (x ≤ y)).toArray) os).heap[q]? = if b = q then some (.cells (((srt ls).map (Value.int .i64)) ++ junk).toArray 2 (0, 0)) else w.heap[q]? := fun q hq => by
    have e1 : (grow (putRow (Value.int .i64) (Sort.ahead w nn) b 0 (ls.mergeSort fun x y => decide (x ≤ y)).toArray) os).heap[q]? = (w.heap.modify b (onCells (putCells (Value.int .i64) 0 (ls.mergeSort fun x y => decide (x ≤ y)).toArray)))[q]? := by
      show ((w.heap.modify b _) ++ os)[q]? = _
      rw [Array.getElem?_append_left (by simpa using hq)]
    rw [e1, Array.getElem?_modify]
    by_cases hbq : b = q
    · subst hbq
      rw [if_pos rfl, if_pos rfl, hh]
      simp only [Option.map_some, onCells]
      congr 2
      apply Array.ext
      · simp [putCells, srt_len']
      · intro k k1 k2
        simp only [putCells, Array.getElem_mapIdx, Nat.zero_le, true_and, Nat.zero_add, Nat.sub_zero, List.getElem_toArray]
        have hml : (ls.mergeSort fun x y => decide (x ≤ y)).length = ls.length := by simp
        by_cases hk : k < ls.length
        · rw [if_pos (by simpa using hk), List.getElem_append_left (by simpa [srt_len'] using hk)]
          simp [srt, hk]
        · rw [if_neg (by simpa using hk), List.getElem_append_right (by simpa using hk), List.getElem_append_right (by simpa [srt_len'] using hk)]
          simp [srt_len']
    · rw [if_neg hbq, if_neg hbq]
  refine hw.up (A' := Sl 2 (some ⟨b, 0, none⟩) cap (srt ls)) .z (fun S hS => ⟨⟨map_enc_len _, .inr ⟨b, junk, rfl, .inl ?_, ?_, h1, ?_, ?_⟩⟩, fun q hq hnq => ?_⟩) ⟨rfl, rfl, rfl⟩
  · rcases hS.2 with ⟨_, h0⟩ | ⟨b', _, hb', hS', _⟩
    · exact absurd (by simpa using h0) hne
    · injection hb' with hb'; injection hb' with hb'; rw [hb']; exact hS'
  · rw [hheap b hlt, if_pos rfl, flat_int]
  · simpa [srt_len'] using h2
  · simpa [srt_len'] using hcap
  · rw [hheap q hq]
    have hSb : S b := by
      rcases hS.2 with ⟨_, h0⟩ | ⟨b', _, hb', hS', _⟩
      · exact absurd (by simpa using h0) hne
      · injection hb' with hb'; injection hb' with hb'; rw [hb']; exact hS'
    rw [if_neg (fun e : b = q => hnq (by rw [← e]; exact hSb))]

theorem sortS : SortS := fun a cap ls h => sort_specI a cap ls h
end Go.Proofs.Ytnmfpgfgjjmfhaa
