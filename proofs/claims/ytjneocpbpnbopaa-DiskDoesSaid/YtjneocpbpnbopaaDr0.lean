/- Disks: how long names are; what is used, by name (plain laws). -/
import Derived.Test.YtjneocpbpnbopaaDkW
import Derived.Test.YtjneocpbpnbopaaDkI
set_option linter.unusedVariables false
set_option linter.unusedSimpArgs false
namespace Go.Proofs.Ytjneocpbpnbopaa
open Go

theorem width_le (s : ByteArray) (p : Nat) : (Utf8.decode s p).2 ≤ 4 := by
  rw [Lib.decode_at]
  unfold Lib.decodeN
  repeat' split
  all_goals (dsimp only; omega)
theorem size_cnt (s : ByteArray) : ∀ (g p : Nat), s.size - p ≤ g → s.size - p ≤ 4 * cntR s g p
  | 0, p, h => by omega
  | g + 1, p, h => by
    rw [cntR]
    split
    · rename_i hp
      have := width_le s p
      have := width_pos hp
      have := size_cnt s g (p + (Utf8.decode s p).2) (by omega)
      omega
    · omega
theorem may_size {s : ByteArray} (h : mayB s = true) : s.size ≤ 96 := by
  have h1 := size_cnt s s.size 0 (by omega)
  rw [← mayR_mayB] at h
  rcases Decidable.em (24 < cntR s s.size 0) with h2 | h2
  · rw [mayR_no (.inr (.inl h2))] at h; cases h
  · omega
def sumK (s : DS) (ks : List ByteArray) : Nat := (ks.map fun k => (readB s k).length).sum
theorem sumK_snoc (s : DS) {ks : List ByteArray} {j : Nat} {k : ByteArray} (h : ks[j]? = some k) : sumK s (ks.take (j + 1)) = sumK s (ks.take j) + (readB s k).length := by
  unfold sumK
  rw [List.take_add_one, h, List.map_append, List.sum_append]
  simp
theorem getM_here {β : Type} {l : List (ByteArray × β)} (hn : (l.map Prod.fst).Nodup) {e : ByteArray × β} (he : e ∈ l) : getM l e.1 = some e.2 := by
  induction l with
  | nil => cases he
  | cons a l ih =>
    rw [List.map_cons, List.nodup_cons] at hn
    rw [getM_cons]
    rcases List.mem_cons.1 he with rfl | he
    · rw [if_pos rfl]
    · rw [if_neg (fun e2 => hn.1 (by rw [e2]; exact List.mem_map_of_mem he)), ih hn.2 he]
theorem sumK_used {s : DS} (h : DInv s) : sumK s (filesL s) = usedN s.fs := by
  unfold sumK
  rw [((filesL_perm s).map fun k => (readB s k).length).sum_nat]
  unfold usedN
  rw [List.map_map]
  congr 1
  refine List.map_congr_left fun e he => ?_
  show (readB s e.1).length = _
  unfold readB
  rw [getM_here h.nd he]
  rfl
theorem sumK_le {s : DS} (h : DInv s) (j : Nat) : sumK s ((filesL s).take j) ≤ usedN s.fs := by
  rw [← sumK_used h]
  have : sumK s (filesL s) = sumK s ((filesL s).take j) + sumK s ((filesL s).drop j) := by
    unfold sumK
    rw [← List.sum_append, ← List.map_append, List.take_append_drop]
  omega


end Go.Proofs.Ytjneocpbpnbopaa
