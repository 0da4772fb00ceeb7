/- Logs that have one entry alike: plain laws. -/
import Derived.Test.YtidamnmfobblaaaRlL
set_option linter.unusedVariables false
set_option linter.unusedSimpArgs false
set_option maxRecDepth 100000
namespace Go.Proofs.Ytidamnmfobblaaa
open Go
attribute [local irreducible] Exit.then Exit.inBlock Code.wp runS bodyPost postF J runT cutQ cutR Tr Sat blk Sl Old Star Ex Pu

def LMt (W : List (List Ent)) : Prop := ∀ w1 ∈ W, ∀ w2 ∈ W, ∀ (n : Nat) (e1 e2 : Ent), w1[n]? = some e1 → w2[n]? = some e2 → e1.t = e2.t → w1.take (n + 1) = w2.take (n + 1)
def Fam (W : List (List Ent)) (hi : Int) : Prop := LMt W ∧ ∀ w ∈ W, ∀ e ∈ w, e.t ≤ hi

theorem fam_one {ws : List Ent} {hi : Int} (h : ∀ e ∈ ws, e.t ≤ hi) : Fam [ws] hi := by
  refine ⟨fun w1 h1 w2 h2 n e1 e2 _ _ _ => ?_, fun w hw => ?_⟩
  · rw [List.mem_singleton.1 h1, List.mem_singleton.1 h2]
  · rw [List.mem_singleton.1 hw]; exact h

theorem ext_side {W : List (List Ent)} {hi : Int} (hf : Fam W hi) {old ext : List Ent} {k : Nat} (ho : old ∈ W) (hk : k ≤ old.length) (he : ∀ e ∈ ext, e.t = hi + 1) {w : List Ent} (hw : w ∈ W) {n : Nat} {e1 e2 : Ent} (h1 : (old.take k ++ ext)[n]? = some e1) (h2 : w[n]? = some e2) (ht : e1.t = e2.t) : (old.take k ++ ext).take (n + 1) = w.take (n + 1) := by
  by_cases hn : n < k
  · have h3 : (old.take k ++ ext)[n]? = old[n]? := by rw [List.getElem?_append_left (by simp; omega), List.getElem?_take_of_lt hn]
    rw [h3] at h1
    rw [← hf.1 old ho w hw n e1 e2 h1 h2 ht, List.take_append_of_le_length (by simp; omega), List.take_take, Nat.min_eq_left (by omega)]
  · rw [List.getElem?_append_right (by simp; omega)] at h1
    have := he e1 (List.mem_of_getElem? h1)
    have := hf.2 w hw e2 (List.mem_of_getElem? h2)
    omega

theorem Fam.add {W : List (List Ent)} {hi : Int} (hf : Fam W hi) {old ext : List Ent} {k : Nat} (ho : old ∈ W) (hk : k ≤ old.length) (he : ∀ e ∈ ext, e.t = hi + 1) : Fam ((old.take k ++ ext) :: W) (hi + 1) := by
  refine ⟨fun w1 h1 w2 h2 n e1 e2 g1 g2 ht => ?_, fun w hw e hew => ?_⟩
  · rcases List.mem_cons.1 h1 with rfl | h1 <;> rcases List.mem_cons.1 h2 with rfl | h2
    · rfl
    · exact ext_side hf ho hk he h2 g1 g2 ht
    · exact (ext_side hf ho hk he h1 g2 g1 ht.symm).symm
    · exact hf.1 w1 h1 w2 h2 n e1 e2 g1 g2 ht
  · rcases List.mem_cons.1 hw with rfl | hw
    · rcases List.mem_append.1 hew with h | h
      · have := hf.2 old ho e (List.mem_of_mem_take h); omega
      · have := he e h; omega
    · have := hf.2 w hw e hew; omega

def LInv (W : List (List Ent)) (s : LogS) : Prop := s.i = 0 ∧ s.t = 0 ∧ ∃ w ∈ W, s.l <+: w

theorem pre_take {x w : List Ent} (h : x <+: w) {n : Nat} (hn : n ≤ x.length) : x.take n = w.take n := by
  obtain ⟨r, rfl⟩ := h
  rw [List.take_append_of_le_length hn]
theorem pre_get {x w : List Ent} (h : x <+: w) {n : Nat} {e : Ent} (hn : x[n]? = some e) : w[n]? = some e := by
  obtain ⟨r, rfl⟩ := h
  rw [List.getElem?_append_left (List.getElem?_eq_some_iff.1 hn).1]; exact hn

theorem lm_take {W : List (List Ent)} (hf : LMt W) {s : LogS} {w m : List Ent} (hw : w ∈ W) (hm : m ∈ W) (hp : s.l <+: w) {n : Nat} {e x : Ent} (h1 : s.l[n]? = some e) (h2 : m[n]? = some x) (ht : e.t = x.t) : s.l.take (n + 1) = m.take (n + 1) := by
  rw [pre_take hp (by have := (List.getElem?_eq_some_iff.1 h1).1; omega)]
  exact hf w hw m hm n e x (pre_get hp h1) h2 ht

theorem put_take {W : List (List Ent)} (hf : LMt W) {s : LogS} {w m : List Ent} (hw : w ∈ W) (hm : m ∈ W) (hp : s.l <+: w) (hi : s.i = 0) : ∀ (c p : Nat), p ≤ m.length → p ≤ s.l.length → s.l.take p = m.take p →
    (putL s p ((m.drop p).take c)).2 = s ∨ (putL s p ((m.drop p).take c)).2 = ⟨s.i, s.t, m.take (p + c)⟩
  | 0, p, _, _, _ => .inl (by simp [putL])
  | c + 1, p, h1, h2, h3 => by
    by_cases hpm : p < m.length
    · have e : (m.drop p).take (c + 1) = m[p] :: (m.drop (p + 1)).take c := by rw [List.drop_eq_getElem_cons hpm]; rfl
      rw [e, putL]
      by_cases ht : termOf s ((p : Int) + 1) = some m[p].t
      · rw [if_pos ht]
        have hin := termOf_in ht
        have hlt : p < s.l.length := by omega
        unfold termOf at ht
        rw [if_neg (by omega), if_pos (by omega), show ((p : Int) + 1 - s.i - 1).toNat = p from by omega, List.getElem?_eq_getElem hlt] at ht
        have ht' : s.l[p].t = m[p].t := by simpa using ht
        have := put_take hf hw hm hp hi c (p + 1) hpm (by omega) (lm_take hf hw hm hp (List.getElem?_eq_getElem hlt) (List.getElem?_eq_getElem hpm) ht')
        rw [show p + (c + 1) = p + 1 + c from by omega]
        exact this
      · rw [if_neg ht]
        right
        rw [show ((p : Int) - s.i).toNat = p from by omega, ← e, h3, ← List.take_add]
    · left
      rw [List.drop_eq_nil_of_le (by omega)]
      simp [putL]

theorem put_inv {ms : List Ms} (hf : LMt (ms.map (·.2.2))) {s s' : LogS} (hs : LInv (ms.map (·.2.2)) s) (h : PutS s ms s') : LInv (ms.map (·.2.2)) s' := by
  rcases h with rfl | ⟨m, hm, p, c, hpl, rfl⟩
  · exact hs
  · have hs0 := hs
    obtain ⟨hi, ht, w, hw, hp⟩ := hs
    have hm' : m.2.2 ∈ ms.map (·.2.2) := List.mem_map_of_mem hm
    unfold putR
    split
    · exact hs0
    · rw [if_neg (by omega)]
      split
      · rename_i h1 h2
        have hin := termOf_in h2
        have hps : p ≤ s.l.length := by omega
        have h3 : s.l.take p = m.2.2.take p := by
          cases p with
          | zero => simp
          | succ q =>
            unfold termOf at h2
            have hq1 : q < s.l.length := by omega
            have hq2 : q < m.2.2.length := by omega
            rw [if_neg (by omega), if_pos (by omega), show (((q + 1 : Nat) : Int) - s.i - 1).toNat = q from by omega, List.getElem?_eq_getElem hq1] at h2
            have : s.l[q].t = m.2.2[q].t := by simpa [tAt, hq2] using h2
            exact lm_take hf hw hm' hp (List.getElem?_eq_getElem hq1) (List.getElem?_eq_getElem hq2) this
        rcases put_take hf hw hm' hp hi c p hpl hps h3 with h4 | h4
        · dsimp only; rw [h4]; exact hs0
        · dsimp only; rw [h4]; exact ⟨hi, ht, _, hm', List.take_prefix _ _⟩
      · exact hs0

theorem match_last {W : List (List Ent)} (hf : LMt W) {s1 s2 : LogS} (h1 : LInv W s1) (h2 : LInv W s2) {n : Nat} {e1 e2 : Ent} (g1 : s1.l[n]? = some e1) (g2 : s2.l[n]? = some e2) (ht : e1.t = e2.t) : s1.l.take (n + 1) = s2.l.take (n + 1) := by
  obtain ⟨_, _, w1, hw1, hp1⟩ := h1
  obtain ⟨_, _, w2, hw2, hp2⟩ := h2
  have l2 := (List.getElem?_eq_some_iff.1 g2).1
  rw [pre_take hp2 (by omega)]
  exact lm_take hf hw1 hw2 hp1 g1 (pre_get hp2 g2) ht

end Go.Proofs.Ytidamnmfobblaaa
