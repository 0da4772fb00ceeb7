/- The net and its reference go together: plain laws; acts. -/
import Derived.Test.YtidamnmfobblaaaNet6
set_option linter.unusedVariables false
set_option linter.unusedSimpArgs false
set_option maxRecDepth 100000
namespace Go.Proofs.Ytidamnmfobblaaa
open Go
attribute [local irreducible] Exit.then Exit.inBlock Code.wp runS bodyPost postF J runT cutQ cutR Tr Sat blk Sl Old Star Ex Pu

structure Act where
  k : Int
  n : Int
  l : Ltr
instance : Enc Act := ⟨fun a => [.int .i64 a.k, .int .i64 a.n, .int .i64 a.l.f, .int .i64 a.l.t, .string a.l.s], 5, fun _ => rfl, by decide, fun x u hu => by simp at hu; rcases hu with rfl | rfl | rfl | rfl | rfl <;> rfl⟩
def ActOk (a : Act) : Prop := -9223372036854775808 ≤ a.n ∧ a.n ≤ 9223372036854775807

def RNS (ns : NetS) (rs : RS) : Prop := rs = ⟨ns.l, bits ns.sides⟩ ∧ NetOk ns ∧ ns.l.length ≤ 400

theorem side_eq (s i : Int) (h : okPlace i) : side s i = s / 2 ^ i.toNat % 2 := by
  obtain ⟨h0, h1⟩ := h
  have hm : min i.toNat IntKind.i64.bits = i.toNat := by simp [IntKind.bits]; omega
  unfold side
  rw [hm, Int.fdiv_eq_ediv_of_nonneg _ (Int.le_of_lt (Int.pow_pos (by decide)))]
  generalize s / 2 ^ i.toNat = x
  have e : (BitVec.ofInt IntKind.i64.bits x &&& BitVec.ofInt IntKind.i64.bits 1).toNat = (x % 18446744073709551616).toNat % 2 := by
    rw [BitVec.toNat_and, BitVec.toNat_ofInt, BitVec.toNat_ofInt]
    have e1 : ((1 : Int) % ((2 ^ IntKind.i64.bits : Nat) : Int)).toNat = 1 := by decide
    have e2 : ((2 ^ IntKind.i64.bits : Nat) : Int) = 18446744073709551616 := by decide
    rw [e1, e2, Nat.and_one_is_mod]
  rw [e, wrap64_id (by omega)]
  omega

theorem bits_get (s i : Int) (h : okPlace i) : (bits s)[i.toNat]? = some (decide (s / 2 ^ i.toNat % 2 = 1)) := by
  obtain ⟨h0, h1⟩ := h
  have hi : i.toNat < 32 := by omega
  unfold bits
  rw [List.getElem?_map, List.getElem?_range hi]
  simp only [Option.map_some, Option.some.injEq, decide_eq_decide]
  generalize i.toNat = k at hi
  have hp : (0 : Int) < 2 ^ k := Int.pow_pos (by decide)
  have e : (18446744073709551616 : Int) = 2 ^ k * (2 ^ (63 - k) * 2) := by
    rw [← Int.pow_succ, ← Int.pow_add, show k + (63 - k + 1) = 64 from by omega]; decide
  have e2 : s % 18446744073709551616 = s - 2 ^ k * (2 ^ (63 - k) * 2 * (s / 18446744073709551616)) := by
    rw [Int.emod_def, ← Int.mul_assoc, ← e]
  have e3 : (s % 18446744073709551616) / 2 ^ k = s / 2 ^ k - 2 ^ (63 - k) * 2 * (s / 18446744073709551616) := by
    rw [e2, Int.sub_mul_ediv_left _ _ (Int.ne_of_gt hp)]
  rw [e3, show 2 ^ (63 - k) * 2 * (s / 18446744073709551616) = 2 * (2 ^ (63 - k) * (s / 18446744073709551616)) from by rw [Int.mul_comm (2 ^ (63 - k)) 2, Int.mul_assoc]]
  omega

theorem side_bits (s f t : Int) (hf : okPlace f) (ht : okPlace t) : side s f = side s t ↔ (bits s)[f.toNat]? = (bits s)[t.toNat]? := by
  rw [side_eq s f hf, side_eq s t ht, bits_get s f hf, bits_get s t ht]
  simp only [Option.some.injEq, decide_eq_decide]
  omega

theorem bits_len (s : Int) : (bits s).length = 32 := by simp [bits]

theorem RNS.send {ns : NetS} {rs : RS} (h : RNS ns rs) (l : Ltr) : sendE ns l = rsendE rs l ∧ RNS (sendN ns l) (rsendN rs l) := by
  obtain ⟨rfl, h3, h4⟩ := h
  refine ⟨rfl, ?_⟩
  unfold sendN rsendN
  dsimp only
  split
  · rename_i hc
    refine ⟨rfl, fun x hx => ?_, by simp; omega⟩
    simp at hx
    rcases hx with hx | rfl
    · exact h3 x hx
    · exact ⟨hc.1, hc.2.1⟩
  · exact ⟨rfl, h3, h4⟩
theorem RNS.drop {ns : NetS} {rs : RS} (h : RNS ns rs) (k : Int) : dropE ns k = rdropE rs k ∧ RNS (dropN ns k) (rdropN rs k) := by
  obtain ⟨rfl, h3, h4⟩ := h
  refine ⟨rfl, ?_⟩
  unfold dropN rdropN
  dsimp only
  split
  · refine ⟨rfl, fun x hx => h3 x (List.mem_of_mem_eraseIdx hx), ?_⟩
    have := List.length_eraseIdx_le ns.l k.toNat
    show (ns.l.eraseIdx k.toNat).length ≤ 400
    omega
  · exact ⟨rfl, h3, h4⟩
theorem RNS.copy {ns : NetS} {rs : RS} (h : RNS ns rs) (k : Int) : copyE ns k = rcopyE rs k ∧ RNS (copyN ns k) (rcopyN rs k) := by
  have hs := fun l => h.send l
  obtain ⟨rfl, h3, h4⟩ := h
  unfold copyE rcopyE copyN rcopyN
  dsimp only
  by_cases hc : 0 ≤ k ∧ k < ns.l.length
  · simp only [hc, dif_pos, and_self]
    exact hs _
  · rw [dif_neg hc, dif_neg hc, dif_neg hc, dif_neg hc]
    exact ⟨rfl, rfl, h3, h4⟩
theorem RNS.split {ns : NetS} {rs : RS} (h : RNS ns rs) (s : Int) : RNS ⟨ns.l, s⟩ ⟨rs.l, bits s⟩ := by
  obtain ⟨rfl, h3, h4⟩ := h
  exact ⟨rfl, h3, h4⟩
theorem RNS.take {ns : NetS} {rs : RS} (h : RNS ns rs) (k : Int) {l : Ltr} {e : Int}
    (ht : (¬ (0 ≤ k ∧ k < rs.l.length) ∧ l = ⟨0, 0, .empty⟩ ∧ e = 10) ∨ ∃ h : k.toNat < rs.l.length, 0 ≤ k ∧ ((rs.sd[(rs.l[k.toNat]).f.toNat]? ≠ rs.sd[(rs.l[k.toNat]).t.toNat]? ∧ l = ⟨0, 0, .empty⟩ ∧ e = 15) ∨ (rs.sd[(rs.l[k.toNat]).f.toNat]? = rs.sd[(rs.l[k.toNat]).t.toNat]? ∧ l = rs.l[k.toNat] ∧ e = 0))) :
    takeL ns k = l ∧ takeE ns k = e := by
  obtain ⟨rfl, h3, h4⟩ := h
  dsimp only at ht
  unfold takeL takeE
  rcases ht with ⟨hn, rfl, rfl⟩ | ⟨hk, h0, ht⟩
  · rw [dif_neg hn, dif_neg hn]; exact ⟨rfl, rfl⟩
  · have hc : 0 ≤ k ∧ k < ns.l.length := ⟨h0, by omega⟩
    obtain ⟨hf, htt⟩ := h3 _ (List.getElem_mem hk)
    rw [dif_pos hc, dif_pos hc]
    have hs := side_bits ns.sides _ _ hf htt
    rcases ht with ⟨hb, rfl, rfl⟩ | ⟨hb, rfl, rfl⟩
    · have : side ns.sides (ns.l[k.toNat]).f ≠ side ns.sides (ns.l[k.toNat]).t := fun e => hb (hs.1 e)
      simp only [this, ne_eq, not_false_eq_true, if_true]
      exact ⟨trivial, trivial⟩
    · have : side ns.sides (ns.l[k.toNat]).f = side ns.sides (ns.l[k.toNat]).t := hs.2 hb
      simp only [this, ne_eq, not_true_eq_false, if_false]
      exact ⟨trivial, trivial⟩

end Go.Proofs.Ytidamnmfobblaaa
