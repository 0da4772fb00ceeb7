/- The library's sort of strings, as a specification. -/
import Derived.Test.YtjneocpbpnbopaaDkP
import Derived.Shelf.Slices.In.SortNone
import Derived.Test.YtjneocpbpnbopaaSv
import Derived.Test.YtjneocpbpnbopaaTy
set_option linter.unusedVariables false
set_option linter.unusedSimpArgs false
namespace Go.Proofs.Ytjneocpbpnbopaa
open Go Go.Sort

def strB (l : List UInt8) : ByteArray := ⟨l.toArray⟩
def bytesOf (s : ByteArray) : List UInt8 := s.data.toList
def sortB (ls : List ByteArray) : List ByteArray := ((ls.map bytesOf).mergeSort fun x y => decide (x ≤ y)).map strB
theorem strB_bytes (s : ByteArray) : strB (bytesOf s) = s := by cases s; rfl
theorem sortB_len (ls : List ByteArray) : (sortB ls).length = ls.length := by simp [sortB]
theorem sortB_perm (ls : List ByteArray) : (sortB ls).Perm ls := by
  have := (List.mergeSort_perm (ls.map bytesOf) (fun x y => decide (x ≤ y))).map strB
  rw [List.map_map] at this
  have e : ls.map (strB ∘ bytesOf) = ls := by
    rw [show (strB ∘ bytesOf) = id from funext strB_bytes, List.map_id]
  rw [e] at this
  exact this

theorem flat_str (ls : List ByteArray) : (ls.map (Enc.enc (α := ByteArray))).flatten = ls.map Value.string := by
  induction ls with
  | nil => rfl
  | cons x l ih => simp only [List.map_cons, List.flatten_cons, ih]; rfl

theorem sort_spec (a : Option Addr) (cap : Nat) (ls : List ByteArray) (hbd : ls.length ≤ 1000000) : Tr Try.prog 44 [.slice a ls.length cap] [Sl 9 a cap ls] (fun v M => v = .tuple #[] ∧ M = [Sl 9 a cap (sortB ls)]) := by
  intro F w hw
  by_cases hne : ls = []
  · subst hne
    refine (Any.slices_Sort_string_none Try.lays190 a cap w).mono fun e w' ⟨he, hw'⟩ => ⟨.tuple #[], [Sl 9 a cap (sortB [])], he, ⟨rfl, rfl⟩, ?_⟩
    subst hw'
    rw [show sortB [] = [] from List.length_eq_zero_iff.1 (sortB_len [])]
    exact hw
  obtain ⟨S0, hS0⟩ := hw.at (A := Sl 9 a cap ls) .z
  rcases hS0.2 with ⟨_, h0⟩ | ⟨b, junk, rfl, _, hh, h1, h2, h3⟩
  · exact absurd (by simpa using h0) hne
  rw [flat_str] at hh
  have hlt := lt_of_heap hh
  have hlen : (ls.map bytesOf).length = ls.length := by simp
  have hcap : ls.length ≤ cap := by simpa using h3
  have hsz : (ls.map bytesOf).length < 4611686018427387904 := by rw [hlen]; omega
  have hH : Holds encStr w b 0 (ls.map bytesOf).toArray := fun j hj => by
    have hjl : j < ls.length := by simpa using hj
    constructor
    · simp [World.cell?, hh, hjl, List.getElem?_append_left, bytesOf]
    · simp [World.frozen?, hh]
  have := Any.slices_Sort_string Try.lays190 b 0 cap (ls.map bytesOf) w hH hlt hsz
  rw [hlen] at this
  refine this.mono fun e w' ⟨he, nn, os, hw'⟩ => ⟨.tuple #[], [Sl 9 (some ⟨b, 0, none⟩) cap (sortB ls)], he, ⟨rfl, rfl⟩, ?_⟩
  subst hw'
  have hheap : ∀ q, q < w.heap.size → (grow (putRow encStr (Sort.ahead w nn) b 0 ((ls.map bytesOf).mergeSort fun x y => decide (x ≤ y)).toArray) os).heap[q]? = if b = q then some (.cells (((sortB ls).map Value.string) ++ junk).toArray 9 (0, 0)) else w.heap[q]? := fun q hq => by
    have e1 : (grow (putRow encStr (Sort.ahead w nn) b 0 ((ls.map bytesOf).mergeSort fun x y => decide (x ≤ y)).toArray) os).heap[q]? = (w.heap.modify b (onCells (putCells encStr 0 ((ls.map bytesOf).mergeSort fun x y => decide (x ≤ y)).toArray)))[q]? := by
      show ((w.heap.modify b _) ++ os)[q]? = _
      rw [Array.getElem?_append_left (by simpa using hq)]
    rw [e1, Array.getElem?_modify]
    by_cases hbq : b = q
    · subst hbq
      rw [if_pos rfl, if_pos rfl, hh]
      simp only [Option.map_some, onCells]
      congr 2
      apply Array.ext
      · simp [putCells, sortB_len]
      · intro k k1 k2
        simp only [putCells, Array.getElem_mapIdx, Nat.zero_le, true_and, Nat.zero_add, Nat.sub_zero, List.getElem_toArray]
        have hml : ((ls.map bytesOf).mergeSort fun x y => decide (x ≤ y)).length = ls.length := by simp
        by_cases hk : k < ls.length
        · rw [if_pos (by simpa using hk), List.getElem_append_left (by simpa [sortB_len] using hk)]
          simp [sortB, strB, hk]
        · rw [if_neg (by simpa using hk), List.getElem_append_right (by simpa using hk), List.getElem_append_right (by simpa [sortB_len] using hk)]
          simp [sortB_len]
    · rw [if_neg hbq, if_neg hbq]
  refine hw.up (A' := Sl 9 (some ⟨b, 0, none⟩) cap (sortB ls)) .z (fun S hS => ⟨⟨map_enc_len _, .inr ⟨b, junk, rfl, .inl ?_, ?_, h1, ?_, ?_⟩⟩, fun q hq hnq => ?_⟩) ⟨rfl, rfl, rfl⟩
  · rcases hS.2 with ⟨_, h0⟩ | ⟨b', _, hb', hS', _⟩
    · exact absurd (by simpa using h0) hne
    · injection hb' with hb'; injection hb' with hb'; rw [hb']; exact hS'
  · rw [hheap b hlt, if_pos rfl, flat_str]
  · simpa [sortB_len] using h2
  · simpa [sortB_len] using hcap
  · rw [hheap q hq]
    have hSb : S b := by
      rcases hS.2 with ⟨_, h0⟩ | ⟨b', _, hb', hS', _⟩
      · exact absurd (by simpa using h0) hne
      · injection hb' with hb'; injection hb' with hb'; rw [hb']; exact hS'
    rw [if_neg (fun e : b = q => hnq (by rw [← e]; exact hSb))]

end Go.Proofs.Ytjneocpbpnbopaa
