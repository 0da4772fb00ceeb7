/- Disks: Sync, Cut, Move, Drop. -/
import Derived.Test.YtjneocpbpnbopaaDk5
set_option linter.unusedVariables false
set_option linter.unusedSimpArgs false
set_option maxRecDepth 100000
namespace Go.Proofs.Ytjneocpbpnbopaa
open Go
attribute [local irreducible] Exit.then Exit.inBlock Code.wp runS bodyPost postF J runT cutQ cutR Tr Sat blk Sl Old Star Ex Pu
attribute [local irreducible] MapA MapB IterA IterS All
open Kv Vv

def syncN (s : DS) (k : ByteArray) : Int × DS :=
  if knownE s [k] k ≠ 0 then (knownE s [k] k, s)
  else if s.arm = 0 then (41, failS s)
  else (0, withFs (failS s) (putM s.fs k ⟨(fileOf s k).b, (fileOf s k).b.length⟩))
def cutN (s : DS) (k : ByteArray) (n : Int) : Int × DS :=
  if knownE s [k] k ≠ 0 then (knownE s [k] k, s)
  else if n < 0 ∨ ((fileOf s k).b.length : Int) < n then (2, s)
  else if s.arm = 0 then (41, failS s)
  else (0, withFs (failS s) (putM s.fs k ⟨(fileOf s k).b.take n.toNat, if n < (fileOf s k).s then n else (fileOf s k).s⟩))
def moveN (s : DS) (k t : ByteArray) : Int × DS :=
  if knownE s [k, t] k ≠ 0 then (knownE s [k, t] k, s)
  else if s.arm = 0 then (41, failS s)
  else (0, withFs (failS s) (putM (delM s.fs k) t (fileOf s k)))
def dropN (s : DS) (k : ByteArray) : Int × DS :=
  if knownE s [k] k ≠ 0 then (knownE s [k] k, s)
  else if s.arm = 0 then (41, failS s)
  else (0, withFs (failS s) (delM s.fs k))

theorem dsync_spec (d : Nat) (s : DS) (k : ByteArray) (hI : DInv s) : Tr Try.prog 27 [.pointer (some ⟨d, 0, none⟩), .string k] [DiskA d s] (fun v M => v = .int .i64 (syncN s k).1 ∧ M = [DiskA d (syncN s k).2]) := by
  have harm := hI.arm
  refine tr_enter Try.func27 rfl Try.ntmps27 rfl (fun F => ?_)
  repeat' (first | (show J _ _ _ (runS _ _ _ (⟨_, _, _, _, _, none⟩ :: _)); first | (show J _ _ _ (runS _ _ _ (⟨_, .move _, _, _, _, _⟩ :: _)); refine j_move rfl rfl ?_) | (show J _ _ _ (runS _ _ _ (⟨_, .assign _, _, _, _, _⟩ :: _)); refine j_assign rfl rfl ?_)) | refine j_nil ?_ | (show J _ _ _ (Code.wp _ _ _); first | refine j_seq ?_ | refine j_region ?_) | refine j_then ?_)
  refine j_lit1 (α := ByteArray) rfl rfl k rfl (by decide) rfl (fun bn => ?_)
  refine j_call rfl rfl (dknown_spec d s (some ⟨bn, 0, none⟩) 1 k [] [blk bn 9 [.string k]] (sees_blk1 k) (by simp)) (by repeat (first | exact .refl | apply Pk.cons | constructor)) rfl (fun v M N hv0 hN => ?_)
  rcases hv0 with ⟨hk, rfl, rfl⟩ | ⟨hk, m, l, i, p, f, hf, hn, hi, h2, rfl, rfl⟩ <;> (try simp only [List.nil_append, List.cons_append, List.append_assoc] at hN) <;> subst hN
  · have hA : syncN s k = (knownE s [k] k, s) := by unfold syncN; rw [if_pos hk]
    repeat' (first | (show J _ _ _ (runS _ _ _ (⟨_, _, _, _, _, none⟩ :: _)); first | (show J _ _ _ (runS _ _ _ (⟨_, .move _, _, _, _, _⟩ :: _)); refine j_move rfl rfl ?_) | (show J _ _ _ (runS _ _ _ (⟨_, .binOp _ _ _ _ _, _, _, _, _⟩ :: _)); ((refine j_bin rfl rfl rfl rfl ?_))) | (show J _ _ _ (runS _ _ _ (⟨_, .assign _, _, _, _, _⟩ :: _)); refine j_assign rfl rfl ?_) | (show J _ _ _ (runS _ _ _ (⟨_, .extract _ _, _, _, _, _⟩ :: _)); refine j_extract rfl rfl rfl ?_)) | refine j_nil ?_ | (show J _ _ _ (Code.wp _ _ _); first | refine j_seq ?_ | refine j_region ?_ | (show J _ _ _ (Code.wp _ (.cond _ _ _) _); (refine j_dec rfl (fun h => ?_) (fun h => ?_))) | refine j_ret ?_ | refine j_skip ?_) | refine j_then ?_ | refine j_then_ret ?_)
    · (refine j_tk (A := DiskA d s) (by repeat constructor) ?_; rw [hA]; exact j_ret1 (M := [DiskA d s]) rfl rfl (by repeat (first | exact .refl | apply Pk.cons | refine .drop ?_ | constructor)) ⟨rfl, rfl⟩)
    · exact absurd hk h
  · have hfo : fileOf s k = f := by unfold fileOf; rw [h2]; rfl
    have hk2 : ¬ knownE s [k] k ≠ 0 := by simp [hk]
    repeat' (first | (show J _ _ _ (runS _ _ _ (⟨_, _, _, _, _, none⟩ :: _)); first | (show J _ _ _ (runS _ _ _ (⟨_, .move _, _, _, _, _⟩ :: _)); refine j_move rfl rfl ?_) | (show J _ _ _ (runS _ _ _ (⟨_, .binOp _ _ _ _ _, _, _, _, _⟩ :: _)); ((refine j_bin rfl rfl rfl rfl ?_))) | (show J _ _ _ (runS _ _ _ (⟨_, .assign _, _, _, _, _⟩ :: _)); refine j_assign rfl rfl ?_) | (show J _ _ _ (runS _ _ _ (⟨_, .extract _ _, _, _, _, _⟩ :: _)); refine j_extract rfl rfl rfl ?_)) | refine j_nil ?_ | (show J _ _ _ (Code.wp _ _ _); first | refine j_seq ?_ | refine j_region ?_ | (show J _ _ _ (Code.wp _ (.cond _ _ _) _); (refine j_false rfl ?_)) | refine j_skip ?_) | refine j_then ?_)
    (refine j_call rfl rfl (dfails_spec d m s harm) ((by repeat ((exact .refl)))) rfl (fun v M N h hN => ?_); obtain ⟨rfl, rfl⟩ := h; (try simp only [List.nil_append, List.cons_append, List.append_assoc] at hN); subst hN)
    repeat' (first | (show J _ _ _ (runS _ _ _ (⟨_, _, _, _, _, none⟩ :: _)); first | (show J _ _ _ (runS _ _ _ (⟨_, .move _, _, _, _, _⟩ :: _)); refine j_move rfl rfl ?_) | (show J _ _ _ (runS _ _ _ (⟨_, .fieldAddr _ _ _, _, _, _, _⟩ :: _)); refine j_fieldAddr rfl rfl ?_) | (show J _ _ _ (runS _ _ _ (⟨_, .nilCheck _, _, _, _, _⟩ :: _)); ((refine j_nilCheck rfl rfl ?_))) | (show J _ _ _ (runS _ _ _ (⟨_, .assign _, _, _, _, _⟩ :: _)); refine j_assign rfl rfl ?_)) | refine j_nil ?_ | (show J _ _ _ (Code.wp _ _ _); first | refine j_seq ?_ | refine j_region ?_ | (show J _ _ _ (Code.wp _ (.cond _ _ _) _); (refine j_dec rfl (fun h => ?_) (fun h => ?_))) | refine j_ret ?_ | refine j_skip ?_) | refine j_then ?_ | refine j_then_ret ?_)
    · have hA : syncN s k = (41, failS s) := by unfold syncN; rw [if_neg hk2, if_pos h]
      rw [hA]
      refine j_tk (A := All _) (by repeat constructor) (j_tk (A := MapA m _) (by repeat constructor) (j_tk (A := blk d _ _) (by repeat constructor) (j_undisk hn ?_)))
      rw [hf]
      exact j_ret1 (M := [DiskA d (failS s)]) rfl rfl (by repeat (first | exact .refl | apply Pk.cons | refine .drop ?_ | constructor)) ⟨rfl, rfl⟩
    · have hA : syncN s k = (0, withFs (failS s) (putM s.fs k ⟨f.b, f.b.length⟩)) := by unfold syncN; rw [if_neg hk2, if_neg h, hfo]
      rw [hA]
      refine j_tk (A := All _) (by repeat constructor) (j_focus (plcs_get hi) (j_file (fun a c => ?_)))
      repeat' (first | (show J _ _ _ (runS _ _ _ (⟨_, _, _, _, _, none⟩ :: _)); first | (show J _ _ _ (runS _ _ _ (⟨_, .load _ _, _, _, _, _⟩ :: _)); ((refine j_load rfl rfl (by repeat constructor) rfl rfl ?_))) | (show J _ _ _ (runS _ _ _ (⟨_, .fieldAddr _ _ _, _, _, _, _⟩ :: _)); refine j_fieldAddr rfl rfl ?_) | (show J _ _ _ (runS _ _ _ (⟨_, .nilCheck _, _, _, _, _⟩ :: _)); ((refine j_nilCheck rfl rfl ?_))) | (show J _ _ _ (runS _ _ _ (⟨_, .assign _, _, _, _, _⟩ :: _)); refine j_assign rfl rfl ?_) | (show J _ _ _ (runS _ _ _ (⟨_, .store _ _ _, _, _, _, _⟩ :: _)); ((refine j_set rfl rfl rfl (by rfl) (by repeat constructor) (by repeat constructor) ?_))) | (show J _ _ _ (runS _ _ _ (⟨_, .call ⟨.builtin .len, _, _⟩, _, _, _, _⟩ :: _)); ((refine j_len rfl rfl ?_)))) | refine j_nil ?_ | (show J _ _ _ (Code.wp _ _ _); first | refine j_seq ?_ | refine j_region ?_ | refine j_ret ?_) | refine j_then ?_)
      (refine j_tk (A := All _) (by repeat constructor) (j_tk (A := Sl 5 _ _ _) (by repeat constructor) (j_tk (A := blk p _ _) (by repeat constructor) (j_unfile rfl (j_unfocus (by rw [plcs_len]; exact (List.getElem?_eq_some_iff.1 hi).1) ?_)))); rw [← plcs_set (k := k) (p := p)]; refine j_tk (A := MapA m _) (by repeat constructor) ?_; rw [← ptrs_set hi ⟨f.b, f.b.length⟩]; refine j_tk (A := blk d _ _) (by repeat constructor) (j_undisk (by rw [names_set hi]; exact hn) ?_); rw [fsOf_set hn hi, hf])
      exact j_ret1 (M := [DiskA d _]) rfl rfl (by repeat (first | exact .refl | apply Pk.cons | refine .drop ?_ | constructor)) ⟨rfl, rfl⟩

theorem ddrop_spec (d : Nat) (s : DS) (k : ByteArray) (hI : DInv s) : Tr Try.prog 28 [.pointer (some ⟨d, 0, none⟩), .string k] [DiskA d s] (fun v M => v = .int .i64 (dropN s k).1 ∧ M = [DiskA d (dropN s k).2]) := by
  have harm := hI.arm
  refine tr_enter Try.func28 rfl Try.ntmps28 rfl (fun F => ?_)
  repeat' (first | (show J _ _ _ (runS _ _ _ (⟨_, _, _, _, _, none⟩ :: _)); first | (show J _ _ _ (runS _ _ _ (⟨_, .move _, _, _, _, _⟩ :: _)); refine j_move rfl rfl ?_) | (show J _ _ _ (runS _ _ _ (⟨_, .assign _, _, _, _, _⟩ :: _)); refine j_assign rfl rfl ?_)) | refine j_nil ?_ | (show J _ _ _ (Code.wp _ _ _); first | refine j_seq ?_ | refine j_region ?_) | refine j_then ?_)
  refine j_lit1 (α := ByteArray) rfl rfl k rfl (by decide) rfl (fun bn => ?_)
  refine j_call rfl rfl (dknown_spec d s (some ⟨bn, 0, none⟩) 1 k [] [blk bn 9 [.string k]] (sees_blk1 k) (by simp)) (by repeat (first | exact .refl | apply Pk.cons | constructor)) rfl (fun v M N hv0 hN => ?_)
  rcases hv0 with ⟨hk, rfl, rfl⟩ | ⟨hk, m, l, i, p, f, hf, hn, hi, h2, rfl, rfl⟩ <;> (try simp only [List.nil_append, List.cons_append, List.append_assoc] at hN) <;> subst hN
  · have hA : dropN s k = (knownE s [k] k, s) := by unfold dropN; rw [if_pos hk]
    repeat' (first | (show J _ _ _ (runS _ _ _ (⟨_, _, _, _, _, none⟩ :: _)); first | (show J _ _ _ (runS _ _ _ (⟨_, .move _, _, _, _, _⟩ :: _)); refine j_move rfl rfl ?_) | (show J _ _ _ (runS _ _ _ (⟨_, .binOp _ _ _ _ _, _, _, _, _⟩ :: _)); ((refine j_bin rfl rfl rfl rfl ?_))) | (show J _ _ _ (runS _ _ _ (⟨_, .assign _, _, _, _, _⟩ :: _)); refine j_assign rfl rfl ?_) | (show J _ _ _ (runS _ _ _ (⟨_, .extract _ _, _, _, _, _⟩ :: _)); refine j_extract rfl rfl rfl ?_)) | refine j_nil ?_ | (show J _ _ _ (Code.wp _ _ _); first | refine j_seq ?_ | refine j_region ?_ | (show J _ _ _ (Code.wp _ (.cond _ _ _) _); (refine j_dec rfl (fun h => ?_) (fun h => ?_))) | refine j_ret ?_ | refine j_skip ?_) | refine j_then ?_ | refine j_then_ret ?_)
    · (refine j_tk (A := DiskA d s) (by repeat constructor) ?_; rw [hA]; exact j_ret1 (M := [DiskA d s]) rfl rfl (by repeat (first | exact .refl | apply Pk.cons | refine .drop ?_ | constructor)) ⟨rfl, rfl⟩)
    · exact absurd hk h
  · have hfo : fileOf s k = f := by unfold fileOf; rw [h2]; rfl
    have hk2 : ¬ knownE s [k] k ≠ 0 := by simp [hk]
    repeat' (first | (show J _ _ _ (runS _ _ _ (⟨_, _, _, _, _, none⟩ :: _)); first | (show J _ _ _ (runS _ _ _ (⟨_, .move _, _, _, _, _⟩ :: _)); refine j_move rfl rfl ?_) | (show J _ _ _ (runS _ _ _ (⟨_, .binOp _ _ _ _ _, _, _, _, _⟩ :: _)); ((refine j_bin rfl rfl rfl rfl ?_))) | (show J _ _ _ (runS _ _ _ (⟨_, .assign _, _, _, _, _⟩ :: _)); refine j_assign rfl rfl ?_) | (show J _ _ _ (runS _ _ _ (⟨_, .extract _ _, _, _, _, _⟩ :: _)); refine j_extract rfl rfl rfl ?_)) | refine j_nil ?_ | (show J _ _ _ (Code.wp _ _ _); first | refine j_seq ?_ | refine j_region ?_ | (show J _ _ _ (Code.wp _ (.cond _ _ _) _); (refine j_false rfl ?_)) | refine j_skip ?_) | refine j_then ?_)
    (refine j_call rfl rfl (dfails_spec d m s harm) ((by repeat ((exact .refl)))) rfl (fun v M N h hN => ?_); obtain ⟨rfl, rfl⟩ := h; (try simp only [List.nil_append, List.cons_append, List.append_assoc] at hN); subst hN)
    repeat' (first | (show J _ _ _ (runS _ _ _ (⟨_, _, _, _, _, none⟩ :: _)); first | (show J _ _ _ (runS _ _ _ (⟨_, .move _, _, _, _, _⟩ :: _)); refine j_move rfl rfl ?_) | (show J _ _ _ (runS _ _ _ (⟨_, .load _ _, _, _, _, _⟩ :: _)); ((refine j_load rfl rfl (by repeat constructor) rfl rfl ?_))) | (show J _ _ _ (runS _ _ _ (⟨_, .fieldAddr _ _ _, _, _, _, _⟩ :: _)); refine j_fieldAddr rfl rfl ?_) | (show J _ _ _ (runS _ _ _ (⟨_, .nilCheck _, _, _, _, _⟩ :: _)); ((refine j_nilCheck rfl rfl ?_))) | (show J _ _ _ (runS _ _ _ (⟨_, .assign _, _, _, _, _⟩ :: _)); refine j_assign rfl rfl ?_)) | refine j_nil ?_ | (show J _ _ _ (Code.wp _ _ _); first | refine j_seq ?_ | refine j_region ?_ | (show J _ _ _ (Code.wp _ (.cond _ _ _) _); (refine j_dec rfl (fun h => ?_) (fun h => ?_))) | refine j_ret ?_ | refine j_skip ?_) | refine j_then ?_ | refine j_then_ret ?_)
    · have hA : dropN s k = (41, failS s) := by unfold dropN; rw [if_neg hk2, if_pos h]
      rw [hA]
      refine j_tk (A := All _) (by repeat constructor) (j_tk (A := MapA m _) (by repeat constructor) (j_tk (A := blk d _ _) (by repeat constructor) (j_undisk hn ?_)))
      rw [hf]
      exact j_ret1 (M := [DiskA d (failS s)]) rfl rfl (by repeat (first | exact .refl | apply Pk.cons | refine .drop ?_ | constructor)) ⟨rfl, rfl⟩
    · have hA : dropN s k = (0, withFs (failS s) (delM s.fs k)) := by unfold dropN; rw [if_neg hk2, if_neg h]
      rw [hA]
      refine j_delete (α := ByteArray) (β := Nat) (k := k) rfl rfl (by repeat constructor) ?_
      repeat' (first | (show J _ _ _ (runS _ _ _ (⟨_, _, _, _, _, none⟩ :: _)); (show J _ _ _ (runS _ _ _ (⟨_, .assign _, _, _, _, _⟩ :: _)); refine j_assign rfl rfl ?_)) | refine j_nil ?_ | (show J _ _ _ (Code.wp _ _ _); first | refine j_seq ?_ | refine j_region ?_ | refine j_ret ?_) | refine j_then ?_)
      refine j_tk (A := All _) (by repeat constructor) (j_takeAll hn hi (j_tail ?_))
      rw [← ptrs_delM]
      refine j_tk (A := All _) (by repeat constructor) (j_tk (A := MapA m _) (by repeat constructor) (j_tk (A := blk d _ _) (by repeat constructor) (j_undisk (delM_nodup hn k) ?_)))
      rw [fsOf_delM, hf]
      exact j_ret1 (M := [DiskA d _]) rfl rfl (by repeat (first | exact .refl | apply Pk.cons | refine .drop ?_ | constructor)) ⟨rfl, rfl⟩

theorem dmove_spec (d : Nat) (s : DS) (k t : ByteArray) (hI : DInv s) : Tr Try.prog 29 [.pointer (some ⟨d, 0, none⟩), .string k, .string t] [DiskA d s] (fun v M => v = .int .i64 (moveN s k t).1 ∧ M = [DiskA d (moveN s k t).2]) := by
  have harm := hI.arm
  refine tr_enter Try.func29 rfl Try.ntmps29 rfl (fun F => ?_)
  repeat' (first | (show J _ _ _ (runS _ _ _ (⟨_, _, _, _, _, none⟩ :: _)); first | (show J _ _ _ (runS _ _ _ (⟨_, .move _, _, _, _, _⟩ :: _)); refine j_move rfl rfl ?_) | (show J _ _ _ (runS _ _ _ (⟨_, .assign _, _, _, _, _⟩ :: _)); refine j_assign rfl rfl ?_)) | refine j_nil ?_ | (show J _ _ _ (Code.wp _ _ _); first | refine j_seq ?_ | refine j_region ?_) | refine j_then ?_)
  refine j_lits (α := ByteArray) rfl [_, _] [k, t] ⟨rfl, rfl, rfl, rfl, trivial⟩ rfl rfl (by decide) (by decide) rfl (fun bn => ?_)
  refine j_call rfl rfl (dknown_spec d s (some ⟨bn, 0, none⟩) 2 k [t] [Sl 9 (some ⟨bn, 0, none⟩) 2 [k, t]] sees_sl (by simp)) (by repeat (first | exact .refl | apply Pk.cons | constructor)) rfl (fun v M N hv0 hN => ?_)
  rcases hv0 with ⟨hk, rfl, rfl⟩ | ⟨hk, m, l, i, p, f, hf, hn, hi, h2, rfl, rfl⟩ <;> (try simp only [List.nil_append, List.cons_append, List.append_assoc] at hN) <;> subst hN
  · have hA : moveN s k t = (knownE s [k, t] k, s) := by unfold moveN; rw [if_pos hk]
    repeat' (first | (show J _ _ _ (runS _ _ _ (⟨_, _, _, _, _, none⟩ :: _)); first | (show J _ _ _ (runS _ _ _ (⟨_, .move _, _, _, _, _⟩ :: _)); refine j_move rfl rfl ?_) | (show J _ _ _ (runS _ _ _ (⟨_, .binOp _ _ _ _ _, _, _, _, _⟩ :: _)); ((refine j_bin rfl rfl rfl rfl ?_))) | (show J _ _ _ (runS _ _ _ (⟨_, .assign _, _, _, _, _⟩ :: _)); refine j_assign rfl rfl ?_) | (show J _ _ _ (runS _ _ _ (⟨_, .extract _ _, _, _, _, _⟩ :: _)); refine j_extract rfl rfl rfl ?_)) | refine j_nil ?_ | (show J _ _ _ (Code.wp _ _ _); first | refine j_seq ?_ | refine j_region ?_ | (show J _ _ _ (Code.wp _ (.cond _ _ _) _); (refine j_dec rfl (fun h => ?_) (fun h => ?_))) | refine j_ret ?_ | refine j_skip ?_) | refine j_then ?_ | refine j_then_ret ?_)
    · (refine j_tk (A := DiskA d s) (by repeat constructor) ?_; rw [hA]; exact j_ret1 (M := [DiskA d s]) rfl rfl (by repeat (first | exact .refl | apply Pk.cons | refine .drop ?_ | constructor)) ⟨rfl, rfl⟩)
    · exact absurd hk h
  · have hfo : fileOf s k = f := by unfold fileOf; rw [h2]; rfl
    have hk2 : ¬ knownE s [k, t] k ≠ 0 := by simp [hk]
    repeat' (first | (show J _ _ _ (runS _ _ _ (⟨_, _, _, _, _, none⟩ :: _)); first | (show J _ _ _ (runS _ _ _ (⟨_, .move _, _, _, _, _⟩ :: _)); refine j_move rfl rfl ?_) | (show J _ _ _ (runS _ _ _ (⟨_, .binOp _ _ _ _ _, _, _, _, _⟩ :: _)); ((refine j_bin rfl rfl rfl rfl ?_))) | (show J _ _ _ (runS _ _ _ (⟨_, .assign _, _, _, _, _⟩ :: _)); refine j_assign rfl rfl ?_) | (show J _ _ _ (runS _ _ _ (⟨_, .extract _ _, _, _, _, _⟩ :: _)); refine j_extract rfl rfl rfl ?_)) | refine j_nil ?_ | (show J _ _ _ (Code.wp _ _ _); first | refine j_seq ?_ | refine j_region ?_ | (show J _ _ _ (Code.wp _ (.cond _ _ _) _); (refine j_false rfl ?_)) | refine j_skip ?_) | refine j_then ?_)
    (refine j_call rfl rfl (dfails_spec d m s harm) ((by repeat ((exact .refl)))) rfl (fun v M N h hN => ?_); obtain ⟨rfl, rfl⟩ := h; (try simp only [List.nil_append, List.cons_append, List.append_assoc] at hN); subst hN)
    repeat' (first | (show J _ _ _ (runS _ _ _ (⟨_, _, _, _, _, none⟩ :: _)); first | (show J _ _ _ (runS _ _ _ (⟨_, .move _, _, _, _, _⟩ :: _)); refine j_move rfl rfl ?_) | (show J _ _ _ (runS _ _ _ (⟨_, .load _ _, _, _, _, _⟩ :: _)); ((refine j_load rfl rfl (by repeat constructor) rfl rfl ?_))) | (show J _ _ _ (runS _ _ _ (⟨_, .fieldAddr _ _ _, _, _, _, _⟩ :: _)); refine j_fieldAddr rfl rfl ?_) | (show J _ _ _ (runS _ _ _ (⟨_, .nilCheck _, _, _, _, _⟩ :: _)); ((refine j_nilCheck rfl rfl ?_))) | (show J _ _ _ (runS _ _ _ (⟨_, .assign _, _, _, _, _⟩ :: _)); refine j_assign rfl rfl ?_)) | refine j_nil ?_ | (show J _ _ _ (Code.wp _ _ _); first | refine j_seq ?_ | refine j_region ?_ | (show J _ _ _ (Code.wp _ (.cond _ _ _) _); (refine j_dec rfl (fun h => ?_) (fun h => ?_))) | refine j_ret ?_ | refine j_skip ?_) | refine j_then ?_ | refine j_then_ret ?_)
    · have hA : moveN s k t = (41, failS s) := by unfold moveN; rw [if_neg hk2, if_pos h]
      rw [hA]
      refine j_tk (A := All _) (by repeat constructor) (j_tk (A := MapA m _) (by repeat constructor) (j_tk (A := blk d _ _) (by repeat constructor) (j_undisk hn ?_)))
      rw [hf]
      exact j_ret1 (M := [DiskA d (failS s)]) rfl rfl (by repeat (first | exact .refl | apply Pk.cons | refine .drop ?_ | constructor)) ⟨rfl, rfl⟩
    · have hA : moveN s k t = (0, withFs (failS s) (putM (delM s.fs k) t f)) := by unfold moveN; rw [if_neg hk2, if_neg h, hfo]
      rw [hA]
      refine j_delete (α := ByteArray) (β := Nat) (k := k) rfl rfl (by repeat constructor) ?_
      repeat' (first | (show J _ _ _ (runS _ _ _ (⟨_, _, _, _, _, none⟩ :: _)); first | (show J _ _ _ (runS _ _ _ (⟨_, .move _, _, _, _, _⟩ :: _)); refine j_move rfl rfl ?_) | (show J _ _ _ (runS _ _ _ (⟨_, .load _ _, _, _, _, _⟩ :: _)); ((refine j_load rfl rfl (by repeat constructor) rfl rfl ?_))) | (show J _ _ _ (runS _ _ _ (⟨_, .fieldAddr _ _ _, _, _, _, _⟩ :: _)); refine j_fieldAddr rfl rfl ?_) | (show J _ _ _ (runS _ _ _ (⟨_, .nilCheck _, _, _, _, _⟩ :: _)); ((refine j_nilCheck rfl rfl ?_)))) | refine j_nil ?_ | (show J _ _ _ (Code.wp _ _ _); first | refine j_seq ?_ | refine j_region ?_) | refine j_then ?_)
      refine j_mapUpdate (α := ByteArray) (β := Nat) (k := t) (v := p) rfl rfl rfl (by repeat constructor) ?_
      repeat' (first | (show J _ _ _ (runS _ _ _ (⟨_, _, _, _, _, none⟩ :: _)); (show J _ _ _ (runS _ _ _ (⟨_, .assign _, _, _, _, _⟩ :: _)); refine j_assign rfl rfl ?_)) | refine j_nil ?_ | (show J _ _ _ (Code.wp _ _ _); first | refine j_seq ?_ | refine j_region ?_ | refine j_ret ?_) | refine j_then ?_)
      refine j_tk (A := All _) (by repeat constructor) (j_takeAll hn hi (j_putAll (k := t) (delM_nodup hn k) ?_))
      rw [← ptrs_delM, ← ptrs_putM _ t p f]
      refine j_tk (A := All _) (by repeat constructor) (j_tk (A := MapA m _) (by repeat constructor) (j_tk (A := blk d _ _) (by repeat constructor) (j_undisk (putM_nodup (delM_nodup hn k) t (p, f)) ?_)))
      rw [fsOf_putM, fsOf_delM, hf]
      exact j_ret1 (M := [DiskA d _]) rfl rfl (by repeat (first | exact .refl | apply Pk.cons | refine .drop ?_ | constructor)) ⟨rfl, rfl⟩

theorem take_clamp {n : Int} {b : List UInt8} (h : 0 ≤ n ∧ n ≤ b.length) : (b.take n.toNat).length = n.toNat ∧ (n.toNat : Int) = n := by
  simp; omega

theorem dcut_spec (d : Nat) (s : DS) (k : ByteArray) (n : Int) (hI : DInv s) : Tr Try.prog 32 [.pointer (some ⟨d, 0, none⟩), .string k, .int .i64 n] [DiskA d s] (fun v M => v = .int .i64 (cutN s k n).1 ∧ M = [DiskA d (cutN s k n).2]) := by
  have harm := hI.arm
  refine tr_enter Try.func32 rfl Try.ntmps32 rfl (fun F => ?_)
  repeat' (first | (show J _ _ _ (runS _ _ _ (⟨_, _, _, _, _, none⟩ :: _)); first | (show J _ _ _ (runS _ _ _ (⟨_, .move _, _, _, _, _⟩ :: _)); refine j_move rfl rfl ?_) | (show J _ _ _ (runS _ _ _ (⟨_, .assign _, _, _, _, _⟩ :: _)); refine j_assign rfl rfl ?_)) | refine j_nil ?_ | (show J _ _ _ (Code.wp _ _ _); first | refine j_seq ?_ | refine j_region ?_) | refine j_then ?_)
  refine j_lit1 (α := ByteArray) rfl rfl k rfl (by decide) rfl (fun bn => ?_)
  refine j_call rfl rfl (dknown_spec d s (some ⟨bn, 0, none⟩) 1 k [] [blk bn 9 [.string k]] (sees_blk1 k) (by simp)) (by repeat (first | exact .refl | apply Pk.cons | constructor)) rfl (fun v M N hv0 hN => ?_)
  rcases hv0 with ⟨hk, rfl, rfl⟩ | ⟨hk, m, l, i, p, f, hf, hn, hi, h2, rfl, rfl⟩ <;> (try simp only [List.nil_append, List.cons_append, List.append_assoc] at hN) <;> subst hN
  · have hA : cutN s k n = (knownE s [k] k, s) := by unfold cutN; rw [if_pos hk]
    repeat' (first | (show J _ _ _ (runS _ _ _ (⟨_, _, _, _, _, none⟩ :: _)); first | (show J _ _ _ (runS _ _ _ (⟨_, .move _, _, _, _, _⟩ :: _)); refine j_move rfl rfl ?_) | (show J _ _ _ (runS _ _ _ (⟨_, .binOp _ _ _ _ _, _, _, _, _⟩ :: _)); ((refine j_bin rfl rfl rfl rfl ?_))) | (show J _ _ _ (runS _ _ _ (⟨_, .assign _, _, _, _, _⟩ :: _)); refine j_assign rfl rfl ?_) | (show J _ _ _ (runS _ _ _ (⟨_, .pick _ _ _, _, _, _, _⟩ :: _)); ((refine j_pick_t rfl rfl rfl ?_))) | (show J _ _ _ (runS _ _ _ (⟨_, .extract _ _, _, _, _, _⟩ :: _)); refine j_extract rfl rfl rfl ?_)) | refine j_nil ?_ | (show J _ _ _ (runS _ _ _ (⟨_, _, _, _, _, some _⟩ :: _)); first | refine j_gno_u rfl rfl rfl rfl ?_ | refine j_gyes rfl rfl rfl ?_ | refine j_gsplit_dec rfl rfl (fun h => ?_) (fun h => ?_)) | (show J _ _ _ (Code.wp _ _ _); first | refine j_seq ?_ | refine j_region ?_ | (show J _ _ _ (Code.wp _ (.cond _ _ _) _); first | refine j_true rfl ?_ | refine j_dec rfl (fun h => ?_) (fun h => ?_)) | refine j_ret ?_ | refine j_skip ?_) | refine j_then ?_ | refine j_then_ret ?_)
    · (refine j_tk (A := DiskA d s) (by repeat constructor) ?_; rw [hA]; exact j_ret1 (M := [DiskA d s]) rfl rfl (by repeat (first | exact .refl | apply Pk.cons | refine .drop ?_ | constructor)) ⟨rfl, rfl⟩)
    all_goals exact absurd hk (by assumption)
  · have hfo : fileOf s k = f := by unfold fileOf; rw [h2]; rfl
    have hk2 : ¬ knownE s [k] k ≠ 0 := by simp [hk]
    refine j_tk (A := All _) (by repeat constructor) (j_focus (plcs_get hi) (j_file (fun a c => ?_)))
    repeat' (first | (show J _ _ _ (runS _ _ _ (⟨_, _, _, _, _, none⟩ :: _)); first | (show J _ _ _ (runS _ _ _ (⟨_, .move _, _, _, _, _⟩ :: _)); refine j_move rfl rfl ?_) | (show J _ _ _ (runS _ _ _ (⟨_, .load _ _, _, _, _, _⟩ :: _)); ((refine j_load rfl rfl (by repeat constructor) rfl rfl ?_))) | (show J _ _ _ (runS _ _ _ (⟨_, .fieldAddr _ _ _, _, _, _, _⟩ :: _)); refine j_fieldAddr rfl rfl ?_) | (show J _ _ _ (runS _ _ _ (⟨_, .nilCheck _, _, _, _, _⟩ :: _)); ((refine j_nilCheck rfl rfl ?_))) | (show J _ _ _ (runS _ _ _ (⟨_, .binOp _ _ _ _ _, _, _, _, _⟩ :: _)); ((refine j_bin rfl rfl rfl rfl ?_))) | (show J _ _ _ (runS _ _ _ (⟨_, .assign _, _, _, _, _⟩ :: _)); refine j_assign rfl rfl ?_) | (show J _ _ _ (runS _ _ _ (⟨_, .pick _ _ _, _, _, _, _⟩ :: _)); (first | refine j_pick_t rfl rfl rfl ?_ | refine j_pick_f rfl rfl rfl ?_)) | (show J _ _ _ (runS _ _ _ (⟨_, .call ⟨.builtin .len, _, _⟩, _, _, _, _⟩ :: _)); ((refine j_len rfl rfl ?_))) | (show J _ _ _ (runS _ _ _ (⟨_, .extract _ _, _, _, _, _⟩ :: _)); refine j_extract rfl rfl rfl ?_)) | refine j_nil ?_ | (show J _ _ _ (runS _ _ _ (⟨_, _, _, _, _, some _⟩ :: _)); first | refine j_gno_u rfl rfl rfl rfl ?_ | refine j_gyes rfl rfl rfl ?_ | refine j_gsplit_dec rfl rfl (fun h => ?_) (fun h => ?_)) | (show J _ _ _ (Code.wp _ _ _); first | refine j_seq ?_ | refine j_region ?_ | (show J _ _ _ (Code.wp _ (.cond _ _ _) _); first | refine j_true rfl ?_ | refine j_false rfl ?_ | refine j_dec rfl (fun h => ?_) (fun h => ?_)) | refine j_ret ?_ | refine j_skip ?_) | refine j_then ?_ | refine j_then_ret ?_)
    · have hA : cutN s k n = (2, s) := by unfold cutN; rw [if_neg hk2, if_pos (.inl h)]
      (refine j_tk (A := All _) (by repeat constructor) (j_tk (A := Sl 5 _ _ _) (by repeat constructor) (j_tk (A := blk p _ _) (by repeat constructor) (j_unfile rfl (j_unfocus (by rw [plcs_len]; exact (List.getElem?_eq_some_iff.1 hi).1) ?_)))); rw [set_self (plcs_get hi)]; refine j_tk (A := MapA m _) (by repeat constructor) (j_tk (A := blk d _ _) (by repeat constructor) (j_undisk hn ?_)); rw [hf, hA]; exact j_ret1 (M := [DiskA d s]) rfl rfl (by repeat (first | exact .refl | apply Pk.cons | refine .drop ?_ | constructor)) ⟨rfl, rfl⟩)
    · have hA : cutN s k n = (2, s) := by unfold cutN; rw [if_neg hk2, if_pos (.inr (by rw [hfo]; omega))]
      (refine j_tk (A := All _) (by repeat constructor) (j_tk (A := Sl 5 _ _ _) (by repeat constructor) (j_tk (A := blk p _ _) (by repeat constructor) (j_unfile rfl (j_unfocus (by rw [plcs_len]; exact (List.getElem?_eq_some_iff.1 hi).1) ?_)))); rw [set_self (plcs_get hi)]; refine j_tk (A := MapA m _) (by repeat constructor) (j_tk (A := blk d _ _) (by repeat constructor) (j_undisk hn ?_)); rw [hf, hA]; exact j_ret1 (M := [DiskA d s]) rfl rfl (by repeat (first | exact .refl | apply Pk.cons | refine .drop ?_ | constructor)) ⟨rfl, rfl⟩)
    have hn3 : ¬ (n < 0 ∨ ((fileOf s k).b.length : Int) < n) := by rw [hfo]; omega
    (refine j_call rfl rfl (dfails_spec d m s harm) ((by repeat (first | exact .refl | apply Pk.cons | constructor))) rfl (fun v M N h hN => ?_); obtain ⟨rfl, rfl⟩ := h; (try simp only [List.nil_append, List.cons_append, List.append_assoc] at hN); subst hN)
    repeat' (first | (show J _ _ _ (runS _ _ _ (⟨_, _, _, _, _, none⟩ :: _)); first | (show J _ _ _ (runS _ _ _ (⟨_, .move _, _, _, _, _⟩ :: _)); refine j_move rfl rfl ?_) | (show J _ _ _ (runS _ _ _ (⟨_, .load _ _, _, _, _, _⟩ :: _)); ((refine j_load rfl rfl (by repeat constructor) rfl rfl ?_))) | (show J _ _ _ (runS _ _ _ (⟨_, .fieldAddr _ _ _, _, _, _, _⟩ :: _)); refine j_fieldAddr rfl rfl ?_) | (show J _ _ _ (runS _ _ _ (⟨_, .nilCheck _, _, _, _, _⟩ :: _)); ((refine j_nilCheck rfl rfl ?_))) | (show J _ _ _ (runS _ _ _ (⟨_, .assign _, _, _, _, _⟩ :: _)); refine j_assign rfl rfl ?_)) | refine j_nil ?_ | (show J _ _ _ (Code.wp _ _ _); first | refine j_seq ?_ | refine j_region ?_ | (show J _ _ _ (Code.wp _ (.cond _ _ _) _); (refine j_dec rfl (fun h => ?_) (fun h => ?_))) | refine j_ret ?_ | refine j_skip ?_) | refine j_then ?_ | refine j_then_ret ?_)
    · have hA : cutN s k n = (41, failS s) := by unfold cutN; rw [if_neg hk2, if_neg hn3, if_pos h]
      (refine j_tk (A := All _) (by repeat constructor) (j_tk (A := Sl 5 _ _ _) (by repeat constructor) (j_tk (A := blk p _ _) (by repeat constructor) (j_unfile rfl (j_unfocus (by rw [plcs_len]; exact (List.getElem?_eq_some_iff.1 hi).1) ?_)))); rw [set_self (plcs_get hi)]; refine j_tk (A := MapA m _) (by repeat constructor) (j_tk (A := blk d _ _) (by repeat constructor) (j_undisk hn ?_)); rw [hf, hA]; exact j_ret1 (M := [DiskA d (failS s)]) rfl rfl (by repeat (first | exact .refl | apply Pk.cons | refine .drop ?_ | constructor)) ⟨rfl, rfl⟩)
    have hA : cutN s k n = (0, withFs (failS s) (putM s.fs k ⟨f.b.take n.toNat, if n < f.s then n else f.s⟩)) := by unfold cutN; rw [if_neg hk2, if_neg hn3, if_neg h, hfo]
    rw [hA]
    refine j_sl_or (α := UInt8) (ls := f.b) (by repeat constructor) (fun hc1 hc2 hor => ?_)
    refine j_slice 0 n.toNat c rfl (.inl ⟨rfl, rfl⟩) (.inr ⟨_, _, _, rfl, rfl, by omega, by omega⟩) (.inl ⟨rfl, rfl⟩) rfl ?_
    rw [offA_zero' hor]
    simp only [Nat.sub_zero]
    repeat' (first | (show J _ _ _ (runS _ _ _ (⟨_, _, _, _, _, none⟩ :: _)); first | (show J _ _ _ (runS _ _ _ (⟨_, .move _, _, _, _, _⟩ :: _)); refine j_move rfl rfl ?_) | (show J _ _ _ (runS _ _ _ (⟨_, .load _ _, _, _, _, _⟩ :: _)); ((refine j_load rfl rfl (by repeat constructor) rfl rfl ?_))) | (show J _ _ _ (runS _ _ _ (⟨_, .fieldAddr _ _ _, _, _, _, _⟩ :: _)); refine j_fieldAddr rfl rfl ?_) | (show J _ _ _ (runS _ _ _ (⟨_, .nilCheck _, _, _, _, _⟩ :: _)); ((refine j_nilCheck rfl rfl ?_))) | (show J _ _ _ (runS _ _ _ (⟨_, .store _ _ _, _, _, _, _⟩ :: _)); ((refine j_set rfl rfl rfl (by rfl) (by repeat constructor) (by repeat constructor) ?_)))) | refine j_nil ?_ | (show J _ _ _ (Code.wp _ _ _); first | refine j_seq ?_ | refine j_region ?_) | refine j_then ?_)
    refine j_min rfl rfl rfl ?_
    repeat' (first | (show J _ _ _ (runS _ _ _ (⟨_, _, _, _, _, none⟩ :: _)); first | (show J _ _ _ (runS _ _ _ (⟨_, .fieldAddr _ _ _, _, _, _, _⟩ :: _)); refine j_fieldAddr rfl rfl ?_) | (show J _ _ _ (runS _ _ _ (⟨_, .nilCheck _, _, _, _, _⟩ :: _)); ((refine j_nilCheck rfl rfl ?_))) | (show J _ _ _ (runS _ _ _ (⟨_, .assign _, _, _, _, _⟩ :: _)); refine j_assign rfl rfl ?_) | (show J _ _ _ (runS _ _ _ (⟨_, .store _ _ _, _, _, _, _⟩ :: _)); ((refine j_set rfl rfl rfl (by rfl) (by repeat constructor) (by repeat constructor) ?_)))) | refine j_nil ?_ | (show J _ _ _ (Code.wp _ _ _); first | refine j_seq ?_ | refine j_region ?_ | refine j_ret ?_) | refine j_then ?_)
    refine j_shrink (α := UInt8) (ls := f.b) n.toNat (by repeat constructor) ?_
    refine j_tk (A := All _) (by repeat constructor) (j_tk (A := Sl 5 _ _ _) (by repeat constructor) (j_tk (A := blk p _ _) (by repeat constructor) (j_unfile (by simp; omega) (j_unfocus (by rw [plcs_len]; exact (List.getElem?_eq_some_iff.1 hi).1) ?_))))
    rw [← plcs_set (k := k) (p := p)]
    refine j_tk (A := MapA m _) (by repeat constructor) ?_
    rw [← ptrs_set hi ⟨f.b.take n.toNat, if n < f.s then n else f.s⟩]
    refine j_tk (A := blk d _ _) (by repeat constructor) (j_undisk (by rw [names_set hi]; exact hn) ?_)
    rw [fsOf_set hn hi, hf]
    exact j_ret1 (M := [DiskA d _]) rfl rfl (by repeat (first | exact .refl | apply Pk.cons | refine .drop ?_ | constructor)) ⟨rfl, rfl⟩

end Go.Proofs.Ytjneocpbpnbopaa
